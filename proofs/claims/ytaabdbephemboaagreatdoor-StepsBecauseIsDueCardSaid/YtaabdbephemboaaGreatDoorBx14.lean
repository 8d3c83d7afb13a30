/- Words and walks that the claims share, part 14. -/
import Derived.Test.YtaabdbephemboaaGreatDoorBx4
import Derived.Test.YtaabdbephemboaaGreatDoorBx6
import Derived.Test.YtaabdbephemboaaGreatDoorBx11
import Derived.Test.YtaabdbephemboaaGreatDoorBx12
import Derived.Test.YtaabdbephemboaaGreatDoorBx13
import Derived.StillTailTactics
import Derived.Deep.RegionHeld3
import Derived.Deep.RegionWith
import Derived.Sort.OwnSorted
namespace Go.Proofs.Sm
open Go.RowKit
structure ActP where
 A1:Option Addr
 n1:Nat
 c1:Nat
 A2:Option Addr
 n2:Nat
 c2:Nat
 A3:Option Addr
 n3:Nat
 c3:Nat
 A4:Option Addr
 n4:Nat
 c4:Nat
structure ActS (w:World) (S:Nat→Prop) (a:ActionV) (q:ActP):Prop where
 tool:a.tool.size≤maxLen
 commands:Sl w S q.A1 q.n1 a.commands
 vars:Sl w S q.A2 q.n2 a.vars
 outputs:Sl w S q.A3 q.n3 a.outputs
 needs:Sl w S q.A4 q.n4 a.needs
 time:InInt a.time
theorem ActS.keep {w w':World} {S:Nat→Prop} {a:ActionV} {q:ActP} (h:ActS w S a q) (hk:∀ k,S k→w'.heap[k]?=w.heap[k]?):ActS w' S a q :=
 ⟨h.tool,h.commands.keep hk,h.vars.keep hk,h.outputs.keep hk,h.needs.keep hk,h.time⟩
def wkCells (a:ActionV) (q:ActP) (mi mw ml:Nat) (told:ByteArray) (total:Int):List Value :=
 [.string a.tool,.slice q.A1 q.n1 q.c1,.slice q.A2 q.n2 q.c2,.slice q.A3 q.n3 q.c3,.slice q.A4 q.n4 q.c4,.int .i64 a.time,.map (some mi),.map (some mw),.map (some ml),.string told,.int .i64 total]
structure Wk (w:World) (S:Nat→Prop) (B g mi mw ml:Nat) (q:ActP) (a:ActionV) (F:List FileV) (M:Nat) (s:ExSt):Prop where
 env:Env2 w
 envB:8≤B
 blk:Arr w g 215 (wkCells a q mi mw ml ⟨s.told.toArray⟩ (s.total:Nat))
 act:ActS w (Lt B) a q
 inp:FilesIn Tryz.prog 9 w (Lt B) mi F.length F
 new:FilesIn Tryz.prog 9 w (fun k=>B≤k∧S k) mw s.written.length s.written
 lok:LooksIn Tryz.prog 9 w ml s.looks.length s.looks
 ok:ExOk a F M s
 low:B≤g∧B≤mi∧B≤mw∧B≤ml
 dif:mi≠mw∧mi≠ml∧mw≠ml∧g≠mi∧g≠mw∧g≠ml
 lowS:∀ k,k < B→S k
 sep:∀ k,S k→k < w.heap.size∧k≠g∧k≠mi∧k≠mw∧k≠ml
 many:F.length≤1000
 small:∀ y∈F,y.bytes.length≤100000
section
variable {w w':World} {S:Nat→Prop} {B g mi mw ml:Nat} {q:ActP} {a:ActionV} {F:List FileV} {M:Nat} {s:ExSt}
theorem Wk.wri (h:Wk w S B g mi mw ml q a F M s):FilesIn Tryz.prog 9 w S mw s.written.length s.written:=h.new.more fun _ hk=>hk.2
theorem Wk.keep {X:Nat→Prop} (h:Wk w S B g mi mw ml q a F M s) (hk:Kp X w w') (hg:¬ X g) (hi:¬ X mi) (hw:¬ X mw) (hl:¬ X ml) (hS:∀ k,S k→¬ X k):Wk w' S B g mi mw ml q a F M s:=by
 have hb:∀ k,k < w.heap.size→¬ X k→w'.heap[k]?=w.heap[k]?:=hk.block
 have hSk:∀ k,S k→w'.heap[k]?=w.heap[k]?:=fun k hh=>hb k (h.sep k hh).1 (hS k hh)
 have hB:∀ k,Lt B k→w'.heap[k]?=w.heap[k]?:=fun k hh=>hSk k (h.lowS k hh)
 have hBw:8≤w.heap.size:=h.env.size
 exact ⟨h.env.of_heap hk.size fun k hh=>hB k (Nat.lt_of_lt_of_le hh h.envB),h.envB,h.blk.keep (hb g h.blk.lt hg),h.act.keep hB,h.inp.keep (hb mi h.inp.lt hi) hB,h.new.keep (hb mw h.new.lt hw) fun k hk=>hSk k hk.2,MapIs.keep h.lok (hb ml (MapIs.lt h.lok) hl),
  h.ok,h.low,h.dif,h.lowS,fun k hh=>⟨Nat.lt_of_lt_of_le (h.sep k hh).1 hk.size,(h.sep k hh).2⟩,h.many,h.small⟩
theorem Wk.call (h:Wk w S B g mi mw ml q a F M s) (hb:Below w.heap.size w w'):Wk w' S B g mi mw ml q a F M s :=
 h.keep (X:=fun _=>False) (.of hb) (fun h=>h) (fun h=>h) (fun h=>h) (fun h=>h) fun _ _ h=>h
theorem Wk.up {M':Nat} (h:Wk w S B g mi mw ml q a F M s) (hM:M≤M'):Wk w S B g mi mw ml q a F M' s:={ h with ok:=h.ok.more hM }
end
def noFile:Value:=.agg #[.string ⟨#[]⟩,.bool false,.slice none 0 0]
def FindPost (S:Nat→Prop) (B g mi mw ml:Nat) (q:ActP) (a:ActionV) (F:List FileV) (M:Nat) (s:ExSt) (p:ByteArray) (w:World) (e:Ending) (w':World):Prop :=
 Kp (fun k=>k=ml) w w'∧Wk w' S B g mi mw ml q a F (M + noneN (findE p F s).1) (findE p F s).2∧match (findE p F s).1 with
  | none=>e=.returned (.tuple #[noFile,.bool false])
  | some x=>∃ v,FileVal w' S x v∧e=.returned (.tuple #[v,.bool true])
section
variable {w w':World} {S:Nat→Prop} {B g mi mw ml:Nat} {q:ActP} {a:ActionV} {F:List FileV} {M:Nat} {s:ExSt} {p:ByteArray}
theorem find_old {x:FileV} (h:s.written.find? (eqp p)=some x):findE p F s=(some x,s):=by unfold findE; rw [h]
theorem find_new (h:s.written.find? (eqp p)=none):findE p F s=(F.find? (eqp p),{ s with looks:=noteS s.looks (lookAtS F p) }):=by unfold findE; rw [h]
theorem find_seen (h:s.written.find? (eqp p)=none) (hl:(keyL s.looks p.data.toList).isSome=true):findE p F s=(F.find? (eqp p),s):=by
 rw [find_new h,note_same (by rw [lookAt_path]; exact hl)]
theorem FindPost.old {x:FileV} {v:Value} (h:Wk w S B g mi mw ml q a F M s) (hx:s.written.find? (eqp p)=some x) (hv:FileVal w S x v) (hb:Below w.heap.size w w'):FindPost S B g mi mw ml q a F M s p w (.returned (.tuple #[v,.bool true])) w':=by
 unfold FindPost
 rw [find_old hx]
 exact ⟨.of hb,h.call hb,v,hv.keep fun k hk=>hb.block k (h.sep k hk).1,rfl⟩
theorem FindPost.seen {x:FileV} {v:Value} (h:Wk w S B g mi mw ml q a F M s) (hx:s.written.find? (eqp p)=none) (hl:(keyL s.looks p.data.toList).isSome=true) (hF:F.find? (eqp p)=some x) (hv:FileVal w S x v) (hb:Below w.heap.size w w'):FindPost S B g mi mw ml q a F M s p w (.returned (.tuple #[v,.bool true])) w':=by
 unfold FindPost
 rw [find_seen hx hl,hF]
 exact ⟨.of hb,h.call hb,v,hv.keep fun k hk=>hb.block k (h.sep k hk).1,rfl⟩
theorem FindPost.seenNo (h:Wk w S B g mi mw ml q a F M s) (hx:s.written.find? (eqp p)=none) (hl:(keyL s.looks p.data.toList).isSome=true) (hF:F.find? (eqp p)=none) (hb:Below w.heap.size w w'):FindPost S B g mi mw ml q a F M s p w (.returned (.tuple #[noFile,.bool false])) w':=by
 unfold FindPost
 rw [find_seen hx hl,hF]
 exact ⟨.of hb,(h.call hb).up (Nat.le_add_right _ _),rfl⟩
theorem Wk.note {w1 w2:World} (h:Wk w S B g mi mw ml q a F M s) (hb:Below w.heap.size w w1) (hx:s.written.find? (eqp p)=none) (hl:keyL s.looks p.data.toList=none)
 (hm:MapIs Tryz.prog 9 w2 ml (s.looks.length + 1) (fun key=>if key=p.data.toList then some (lookVal (lookAtS F p)) else (keyL s.looks key).map lookVal)) (hg:w1.grownBy w2 (some ml)) :
 Kp (fun k=>k=ml) w w2∧Wk w2 S B g mi mw ml q a F (M + noneN (findE p F s).1) (findE p F s).2:=by
 have hk:Kp (fun k=>k=ml) w w2:=(Kp.of hb).grown hg fun k hk=>.inl (by cases hk; rfl)
 have hok:=h.ok.find p
 rw [find_new hx] at hok ⊢
 refine ⟨hk,?_⟩
 have h1:Wk w1 S B g mi mw ml q a F M s:=h.call hb
 have hne:∀ k,k < w1.heap.size→k≠ml→w2.heap[k]?=w1.heap[k]?:=fun k h1 h2=>hg.block k h1 fun e=>h2 (by cases e; rfl)
 have hSk:∀ k,S k→w2.heap[k]?=w1.heap[k]?:=fun k hh=>hne k (h1.sep k hh).1 (h1.sep k hh).2.2.2.2
 have hB:∀ k,Lt B k→w2.heap[k]?=w1.heap[k]?:=fun k hh=>hSk k (h.lowS k hh)
 have hlk:=LooksIn.put (P:=Tryz.prog) (k:=9) (x:=lookAtS F p) (q:=s.looks) (w':=w2) (m:=ml) (n:=s.looks.length + 1) (by rw [lookAt_path]; exact hl) (by rw [lookAt_path]; exact hm)
 exact ⟨h1.env.of_heap hg.size fun k hh=>hB k (Nat.lt_of_lt_of_le hh h.envB),h.envB,h1.blk.keep (hne g h1.blk.lt h.dif.2.2.2.2.2),h1.act.keep hB,h1.inp.keep (hne mi h1.inp.lt h.dif.2.1) hB,h1.new.keep (hne mw h1.new.lt h.dif.2.2.1) fun k hk=>hSk k hk.2,
  hlk.tight Tryz.underlying9 hok.looks.sorted,hok,h.low,h.dif,h.lowS,fun k hh=>⟨Nat.lt_of_lt_of_le (h1.sep k hh).1 hg.size,(h.sep k hh).2⟩,h.many,h.small⟩
theorem Kp.low {X:Nat→Prop} {w w2 w':World} (h:Kp X w w2) (hb:Below w.heap.size w2 w'):Kp X w w' :=
 ⟨hb.os.trans h.os,hb.tape.trans h.tape,hb.output.trans h.output,Nat.le_trans h.size hb.size,fun k hk hx=>(hb.block k hk).trans (h.block k hk hx)⟩
theorem Wk.low_ {w2:World} {s2:ExSt} (h0:Wk w S B g mi mw ml q a F M s) {M2:Nat} (h:Wk w2 S B g mi mw ml q a F M2 s2) (hb:Below w.heap.size w2 w'):Wk w' S B g mi mw ml q a F M2 s2 :=
 h.keep (X:=fun k=>w.heap.size≤k) ⟨hb.os,hb.tape,hb.output,hb.size,fun k _ hx=>hb.block k (Nat.lt_of_not_le hx)⟩ (Nat.not_le_of_lt h0.blk.lt) (Nat.not_le_of_lt h0.inp.lt) (Nat.not_le_of_lt h0.wri.lt) (Nat.not_le_of_lt (MapIs.lt h0.lok)) fun k hk=>Nat.not_le_of_lt (h0.sep k hk).1
theorem FindPost.new {w1 w2:World} {x:FileV} {v:Value} (h:Wk w S B g mi mw ml q a F M s) (hx:s.written.find? (eqp p)=none) (hl:keyL s.looks p.data.toList=none) (hF:F.find? (eqp p)=some x) (hv:FileVal w S x v) (hb:Below w.heap.size w w1)
 (hm:MapIs Tryz.prog 9 w2 ml (s.looks.length + 1) (fun key=>if key=p.data.toList then some (lookVal ⟨p,digestS x.bytes,x.run⟩) else (keyL s.looks key).map lookVal)) (hg:w1.grownBy w2 (some ml)) (hb2:Below w.heap.size w2 w') :
 FindPost S B g mi mw ml q a F M s p w (.returned (.tuple #[v,.bool true])) w':=by
 have e:lookAtS F p=⟨p,digestS x.bytes,x.run⟩:=by rw [lookAtS,hF]
 obtain ⟨h1,h2⟩:=h.note hb hx hl (by rw [e]; exact hm) hg
 unfold FindPost
 refine ⟨h1.low hb2,h.low_ h2 hb2,?_⟩
 rw [find_new hx,hF]
 exact ⟨v,(hv.keep fun k hk=>h1.block k (h.sep k hk).1 (h.sep k hk).2.2.2.2).keep fun k hk=>hb2.block k (h.sep k hk).1,rfl⟩
theorem FindPost.newNo {w1 w2:World} (h:Wk w S B g mi mw ml q a F M s) (hx:s.written.find? (eqp p)=none) (hl:keyL s.looks p.data.toList=none) (hF:F.find? (eqp p)=none) (hb:Below w.heap.size w w1)
 (hm:MapIs Tryz.prog 9 w2 ml (s.looks.length + 1) (fun key=>if key=p.data.toList then some (lookVal ⟨p,⟨#[]⟩,false⟩) else (keyL s.looks key).map lookVal)) (hg:w1.grownBy w2 (some ml)) (hb2:Below w.heap.size w2 w') :
 FindPost S B g mi mw ml q a F M s p w (.returned (.tuple #[noFile,.bool false])) w':=by
 have e:lookAtS F p=⟨p,⟨#[]⟩,false⟩:=by rw [lookAtS,hF]
 obtain ⟨h1,h2⟩:=h.note hb hx hl (by rw [e]; exact hm) hg
 unfold FindPost
 refine ⟨h1.low hb2,h.low_ h2 hb2,?_⟩
 rw [find_new hx,hF]
end
theorem file_zero:∀ w,(zeroValue 78).run Tryz.prog w=.ok noFile w:=fun w=>by kernel_rfl
theorem look_zero:∀ w,(zeroValue 109).run Tryz.prog w=.ok (.agg #[.string ⟨#[]⟩,.string ⟨#[]⟩,.bool false]) w:=fun w=>by kernel_rfl
theorem map_file_under:Tryz.prog.underlying 97=some (.map 9 78):=by kernel_rfl
theorem map_look_under:Tryz.prog.underlying 213=some (.map 9 109):=by kernel_rfl
theorem files_look {w:World} {S:Nat→Prop} {m n:Nat} {l:List FileV} {p:ByteArray} (h:FilesIn Tryz.prog 9 w S m n l) (hp:p.size≤maxLen):match l.find? (eqp p) with
 | none=>∀ w',Below w.heap.size w w'→(Instr.lookup 97 (.map (some m)) (.string p) true).run Tryz.prog w'=.ok (.tuple #[.agg #[.string ⟨#[]⟩,.bool false,.slice none 0 0],.bool false]) w'
 | some x=>∃ A n c,(x.path.size≤maxLen∧n≤c∧c≤maxLen∧Sl w S A n x.bytes)∧∀ w',Below w.heap.size w w'→(Instr.lookup 97 (.map (some m)) (.string p) true).run Tryz.prog w'=.ok (.tuple #[.agg #[.string x.path,.bool x.run,.slice A n c],.bool true]) w':=by
 obtain ⟨f,h1,h2⟩:=h
 have h3:=fun (w':World) (hb:Below w.heap.size w w')=>(h1.call hb).look_ok Tryz.underlying9 map_file_under (file_zero w') hp
 have h4:=h2 p.data.toList
 rw [keyF_eqp] at h4
 cases hf:l.find? (eqp p) with
 | none =>
   rw [hf] at h4
   simp only at h4 ⊢
   intro w' hb
   rw [h3 w' hb,h4]; rfl
 | some x =>
   rw [hf] at h4
   obtain ⟨v,h5,h0,A,n,c,rfl,h6⟩:=h4
   exact ⟨A,n,c,⟨h0,h6⟩,fun w' hb=>by rw [h3 w' hb,h5]; rfl⟩
theorem looks_look {w:World} {m n:Nat} {l:List Look} {p:ByteArray} (h:LooksIn Tryz.prog 9 w m n l) (hp:p.size≤maxLen):∃ y:Look,∀ w',Below w.heap.size w w'→(Instr.lookup 213 (.map (some m)) (.string p) true).run Tryz.prog w'=.ok (.tuple #[.agg #[.string y.path,.string y.digest,.bool y.run],.bool (keyL l p.data.toList).isSome]) w':=by
 have h3:=fun (w':World) (hb:Below w.heap.size w w')=>(MapIs.call h hb).look_ok Tryz.underlying9 map_look_under (look_zero w') hp
 cases hl:keyL l p.data.toList with
 | none=>exact ⟨⟨⟨#[]⟩,⟨#[]⟩,false⟩,fun w' hb=>by rw [h3 w' hb,hl]; rfl⟩
 | some y=>exact ⟨y,fun w' hb=>by rw [h3 w' hb,hl]; rfl⟩
theorem Box3.keep {w w':World} {g:Nat} {a b c:Value} (h:Box3 w g a b c) (hk:w'.heap[g]?=w.heap[g]?):Box3 w' g a b c:=by
 obtain ⟨⟨h1,h2,h3⟩,⟨h4,h5,h6⟩,h7⟩:=h
 have e1:∀ o,w'.cell? ⟨g,o,none⟩=w.cell? ⟨g,o,none⟩:=fun o=>World.cell?_of_block (a:=⟨g,o,none⟩) hk
 have e2:∀ o,w'.frozen? ⟨g,o,none⟩=w.frozen? ⟨g,o,none⟩:=fun o=>by unfold World.frozen?; rw [hk]
 refine ⟨⟨(e1 _).trans h1,(e1 _).trans h2,(e1 _).trans h3⟩,⟨(e2 _).trans h4,(e2 _).trans h5,(e2 _).trans h6⟩,?_⟩
 rcases Nat.lt_or_ge g w'.heap.size with h8 | h8
 ·exact h8
 ·rw [Array.getElem?_eq_none h8] at hk
  have:=(e1 0).trans h1
  simp [World.cell?,Array.getElem?_eq_none h8] at this
set_option maxHeartbeats 2000000 in
set_option maxRecDepth 100000 in
theorem act_find (S:Nat→Prop) (B g mi mw ml:Nat) (q:ActP) (a:ActionV) (F:List FileV) (M:Nat) (s:ExSt) (p:ByteArray) (w:World) (hp:p.size≤maxLen) (hM:M≤1000000) (h:Wk w S B g mi mw ml q a F M s) :
 Calls Tryz.prog 244 #[.pointer (some ⟨g,0,none⟩),.string p] w (FindPost S B g mi mw ml q a F M s p w):=by
 have hgw:=h.blk.lt
 have hg1:g < w.heap.size + 1:=by omega
 have hg2:g < w.heap.size + 1 + 1:=by omega
 have hg3:g < w.heap.size + 1 + 1 + 1:=by omega
 have hg4:g < w.heap.size + 1 + 1 + 1 + 1:=by omega
 have c6:=h.blk.cell (i:=6) rfl
 have c7:=h.blk.cell (i:=7) rfl
 have c8:=h.blk.cell (i:=8) rfl
 have hW:=files_look h.wri hp
 have hI:=files_look h.inp hp
 obtain ⟨y,hL⟩:=looks_look h.lok hp
 cases hx:s.written.find? (eqp p) with
 | some x =>
   rw [hx] at hW
   obtain ⟨A,n,c,⟨h0,h1,h2,h3⟩,hlk⟩:=hW
   have l0:=hlk (w.alloc (.cells #[.string ⟨#[]⟩,.bool false,.slice none 0 0] 78)) (fr_alloc (fr_refl w) _)
   have HE:=Lib.hid (fun (w':World) (hb:Below w.heap.size w w')=>FindPost.old (F:=F) (v:=.agg #[.string x.path,.bool x.run,.slice A n c]) h hx ⟨h0,A,n,c,rfl,h1,h2,h3⟩ hb)
   clear h hI hL hlk hx h3 c6 c8
   go_enter Tryz.func244,Tryz.ntmps244
   go_wp2
   exact bodyPost_ret (v:=.tuple #[.agg #[.string x.path,.bool x.run,.slice A n c],.bool true]) (by simp [results,Tryz.results244,go_sem, *]) rfl (HE.out _ (by repeat (first | exact fr_refl _ | refine fr_call ?_ (by assumption) | refine fr_alloc ?_ _ | refine fr_set ?_ (by simp) _ | refine Below.drew ?_ | refine below_drewN ?_ _)))
 | none =>
   rw [hx] at hW
   have l0:=hW (w.alloc (.cells #[.string ⟨#[]⟩,.bool false,.slice none 0 0] 78)) (fr_alloc (fr_refl w) _)
   cases hF:F.find? (eqp p) with
   | none =>
     rw [hF] at hI
     have l1:=hI ((w.alloc (.cells #[.string ⟨#[]⟩,.bool false,.slice none 0 0] 78)).alloc (.cells #[.string ⟨#[]⟩,.bool false,.slice none 0 0] 78)) (fr_alloc (fr_alloc (fr_refl w) _) _)
     have l2:=hL (((w.alloc (.cells #[.string ⟨#[]⟩,.bool false,.slice none 0 0] 78)).alloc (.cells #[.string ⟨#[]⟩,.bool false,.slice none 0 0] 78)).alloc (.cells #[.string ⟨#[]⟩,.bool false,.slice none 0 0] 78)) (fr_alloc (fr_alloc (fr_alloc (fr_refl w) _) _) _)
     cases hl:keyL s.looks p.data.toList with
     | some z =>
       rw [hl] at l2
       simp only [Option.isSome_some] at l2
       have HE:=Lib.hid (fun (w':World) (hb:Below w.heap.size w w')=>FindPost.seenNo (p:=p) h hx (by rw [hl]; rfl) hF hb)
       unfold noFile at HE
       clear h hI hL hW hx hl hF
       go_enter Tryz.func244,Tryz.ntmps244
       go_wp2
       exact bodyPost_ret (v:=.tuple #[.agg #[.string ⟨#[]⟩,.bool false,.slice none 0 0],.bool false]) (by simp [results,Tryz.results244,go_sem, *]) rfl (HE.out _ (by repeat (first | exact fr_refl _ | refine fr_call ?_ (by assumption) | refine fr_alloc ?_ _ | refine fr_set ?_ (by simp) _ | refine Below.drew ?_ | refine below_drewN ?_ _)))
     | none =>
       rw [hl] at l2
       simp only [Option.isSome_none] at l2
       have HN:=Lib.hid (fun (w1 w2 w':World) (hb:Below w.heap.size w w1) hm hg (hb2:Below w.heap.size w2 w')=>FindPost.newNo (p:=p) h hx hl hF hb hm hg hb2)
       unfold noFile at HN
       have HM:=Lib.hid (fun (w1:World) (hb:Below w.heap.size w w1)=>(show MapIs Tryz.prog 9 w1 ml s.looks.length _ from MapIs.call h.lok hb))
       have hml:ml < w.heap.size:=MapIs.lt h.lok
       have hlen:s.looks.length≤2000000:=by have:=h.ok.many; have:=h.many; omega
       clear h hI hL hW hx hl hF
       go_enter Tryz.func244,Tryz.ntmps244
       go_wp2
       generalize hV:(((((w.alloc _).alloc _).alloc _).alloc _).alloc _:World)=V
       have hbV:Below w.heap.size w V:=by rw [←hV]; exact fr_alloc (fr_alloc (fr_alloc (fr_alloc (fr_alloc (fr_refl w) _) _) _) _) _
       have hR:Box3 V w.heap.size (.string ⟨#[]⟩) (.bool false) (.slice none 0 0):=by rw [←hV]; exact (box3_new w _ _ _ _).call (fr_alloc (fr_alloc (fr_alloc (fr_alloc (fr_refl _) _) _) _) _)
       have hX:Box3 V (w.heap.size + 1 + 1) (.string ⟨#[]⟩) (.bool false) (.slice none 0 0):=by
        rw [←hV]
        have:=(box3_new ((w.alloc (.cells #[.string ⟨#[]⟩,.bool false,.slice none 0 0] 78)).alloc (.cells #[.string ⟨#[]⟩,.bool false,.slice none 0 0] 78)) (.string ⟨#[]⟩) (.bool false) (.slice none 0 0) 78).call (fr_alloc (fr_alloc (fr_refl _) (.cells #[.string y.path,.string y.digest,.bool y.run] 109)) (.cells #[.string p,.string ⟨#[]⟩,.bool false] 109))
        simpa using this
       have hY:Box3 V (w.heap.size + 1 + 1 + 1 + 1) (.string p) (.string ⟨#[]⟩) (.bool false):=by
        rw [←hV]
        have:=box3_new ((((w.alloc (.cells #[.string ⟨#[]⟩,.bool false,.slice none 0 0] 78)).alloc (.cells #[.string ⟨#[]⟩,.bool false,.slice none 0 0] 78)).alloc (.cells #[.string ⟨#[]⟩,.bool false,.slice none 0 0] 78)).alloc (.cells #[.string y.path,.string y.digest,.bool y.run] 109)) (.string p) (.string ⟨#[]⟩) (.bool false) 109
        simpa using this
       have d8:=(hbV.cell (p:=⟨g,8,none⟩) hgw).trans c8
       have hgV:g < V.heap.size:=Nat.lt_of_lt_of_le hgw hbV.size
       obtain ⟨⟨y0,y1,y2⟩,_,hyl⟩:=hY
       clear hV c6 c7 c8 l0 l1 l2
       have hRl:=hR.2.2
       have hXl:=hX.2.2
       go_still_tail 6,(by kernel_rfl)
       change wpList _ _ _ _ _ V.drew
       go_wp2_with (
        at_mapUpdate
        refine wpList_mapUpdate_is _ rfl _ _ _ 213 rfl Tryz.underlying9 map_look_under rfl ((HM.out V hbV).keep rfl) (by unfold maxLen; omega) p hp (lookVal ⟨p,⟨#[]⟩,false⟩) rfl rfl ?_
        intro w2 hm2 hg2
        obtain ⟨⟨r0,r1,r2⟩,⟨r3,r4,r5⟩,r6⟩:=hR.keep (hg2.block _ hRl (fun e=>by cases e; omega))
        obtain ⟨⟨x0,x1,x2⟩,_,x6⟩:=hX.keep (hg2.block _ hXl (fun e=>by cases e; omega))
        have HE:=Lib.hid (fun (w':World) (hb2:Below w.heap.size w2 w')=>HN.out _ _ w' hbV.drew hm2 hg2 hb2)
        clear hm2 hg2)
       exact bodyPost_ret (v:=.tuple #[.agg #[.string ⟨#[]⟩,.bool false,.slice none 0 0],.bool false]) (by simp [results,Tryz.results244,go_sem, *]) rfl (HE.out _ (by repeat (first | exact Below.refl _ _ | refine Below.setCell ?_ (by simp) _)))
   | some x =>
     rw [hF] at hI
     obtain ⟨A,n,c,⟨h0,h1,h2,h3⟩,hlk⟩:=hI
     have hv:FileVal w S x (.agg #[.string x.path,.bool x.run,.slice A n c]):=⟨h0,A,n,c,rfl,h1,h2,h3.more h.lowS⟩
     have hs3:=h3.more (S':=Lt w.heap.size) fun k hk=>(h.sep k (h.lowS k hk)).1
     have l1:=hlk ((w.alloc (.cells #[.string ⟨#[]⟩,.bool false,.slice none 0 0] 78)).alloc (.cells #[.string ⟨#[]⟩,.bool false,.slice none 0 0] 78)) (fr_alloc (fr_alloc (fr_refl w) _) _)
     have l2:=hL (((w.alloc (.cells #[.string ⟨#[]⟩,.bool false,.slice none 0 0] 78)).alloc (.cells #[.string ⟨#[]⟩,.bool false,.slice none 0 0] 78)).alloc (.cells #[.string x.path,.bool x.run,.slice A n c] 78)) (fr_alloc (fr_alloc (fr_alloc (fr_refl w) _) _) _)
     cases hl:keyL s.looks p.data.toList with
     | some z =>
       rw [hl] at l2
       simp only [Option.isSome_some] at l2
       have HE:=Lib.hid (fun (w':World) (hb:Below w.heap.size w w')=>FindPost.seen (p:=p) h hx (by rw [hl]; rfl) hF hv hb)
       clear h hlk hL hW hx hl hF hv h3 hs3
       go_enter Tryz.func244,Tryz.ntmps244
       go_wp2
       exact bodyPost_ret (v:=.tuple #[.agg #[.string x.path,.bool x.run,.slice A n c],.bool true]) (by simp [results,Tryz.results244,go_sem, *]) rfl (HE.out _ (by repeat (first | exact fr_refl _ | refine fr_call ?_ (by assumption) | refine fr_alloc ?_ _ | refine fr_set ?_ (by simp) _ | refine Below.drew ?_ | refine below_drewN ?_ _)))
     | none =>
       rw [hl] at l2
       simp only [Option.isSome_none] at l2
       have HN:=Lib.hid (fun (w1 w2 w':World) (hb:Below w.heap.size w w1) hm hg (hb2:Below w.heap.size w2 w')=>FindPost.new (p:=p) h hx hl hF hv hb hm hg hb2)
       have HM:=Lib.hid (fun (w1:World) (hb:Below w.heap.size w w1)=>(show MapIs Tryz.prog 9 w1 ml s.looks.length _ from MapIs.call h.lok hb))
       have hml:ml < w.heap.size:=MapIs.lt h.lok
       have hlen:s.looks.length≤2000000:=by have:=h.ok.many; have:=h.many; omega
       clear h hlk hL hW hx hl hF hv h3
       go_enter Tryz.func244,Tryz.ntmps244
       go_wp2
       generalize hV:(((((w.alloc _).alloc _).alloc _).alloc _).alloc _:World)=V
       have hbV:Below w.heap.size w V:=by rw [←hV]; exact fr_alloc (fr_alloc (fr_alloc (fr_alloc (fr_alloc (fr_refl w) _) _) _) _) _
       have hR:Box3 V w.heap.size (.string ⟨#[]⟩) (.bool false) (.slice none 0 0):=by rw [←hV]; exact (box3_new w _ _ _ _).call (fr_alloc (fr_alloc (fr_alloc (fr_alloc (fr_refl _) _) _) _) _)
       have hX:Box3 V (w.heap.size + 1 + 1) (.string x.path) (.bool x.run) (.slice A n c):=by
        rw [←hV]
        have:=(box3_new ((w.alloc (.cells #[.string ⟨#[]⟩,.bool false,.slice none 0 0] 78)).alloc (.cells #[.string ⟨#[]⟩,.bool false,.slice none 0 0] 78)) (.string x.path) (.bool x.run) (.slice A n c) 78).call (fr_alloc (fr_alloc (fr_refl _) (.cells #[.string y.path,.string y.digest,.bool y.run] 109)) (.cells #[.string p,.string ⟨#[]⟩,.bool false] 109))
        simpa using this
       have hY:Arr V (w.heap.size + 1 + 1 + 1 + 1) 109 [.string p,.string ⟨#[]⟩,.bool false]:=by
        rw [←hV]
        have:Arr _ _ 109 [.string p,.string ⟨#[]⟩,.bool false]:=heap_alloc_new ((((w.alloc (.cells #[.string ⟨#[]⟩,.bool false,.slice none 0 0] 78)).alloc (.cells #[.string ⟨#[]⟩,.bool false,.slice none 0 0] 78)).alloc (.cells #[.string x.path,.bool x.run,.slice A n c] 78)).alloc (.cells #[.string y.path,.string y.digest,.bool y.run] 109)) (.cells #[.string p,.string ⟨#[]⟩,.bool false] 109)
        simpa using this
       have e8:=c8
       have d8:=(hbV.cell (p:=⟨g,8,none⟩) hgw).trans c8
       have hgV:g < V.heap.size:=Nat.lt_of_lt_of_le hgw hbV.size
       have HD:=Lib.hid (fun W (hW:W.heap=V.heap)=>blob_Digest A n c x.bytes W (by rw [hW]; exact (hs3.keep fun q hq=>by rw [hW]; exact hbV.block q hq).more (lt_mono hbV.size)))
       have hyl:=hY.lt
       obtain ⟨⟨x0,x1,x2⟩,_,hxl⟩:=id hX
       have HRb:=Lib.hid hR
       have HXb:=Lib.hid hX
       have HYb:=Lib.hid hY
       have E8:=Lib.hid e8
       clear e8
       clear hV c6 c7 c8 l0 l1 l2 hs3 hR hX hY
       go_region_with (go_at_call 73; refine (HD.out _ (by rfl)).mono ?_; rintro e w2 ⟨rfl,hb2⟩; have hb3:=of_drew hb2; have z0:=(HYb.out.call hb3).cell (i:=0) rfl; have z1:=(HYb.out.call hb3).cell (i:=1) rfl; have z2:=(HYb.out.call hb3).cell (i:=2) rfl; have v0:=(HYb.out.call hb3).frozen 0; have v1:=(HYb.out.call hb3).frozen 1; have v2:=(HYb.out.call hb3).frozen 2; have v3:=(HYb.out.call hb3).lt; obtain ⟨⟨r0,r1,r2⟩,_⟩:=HXb.out.call hb3)
       all_goals
        go_wp2
        generalize hU:World.setCell (World.setCell w2 _ _) _ _=U
        have hYU:Arr U (w.heap.size + 1 + 1 + 1 + 1) 109 [.string p,.string (digestS x.bytes),.bool x.run]:=by
         rw [←hU]
         exact ((HYb.out.call hb3).set _ _).set _ _
        have hne:∀ k,k≠w.heap.size + 1 + 1 + 1 + 1→U.heap[k]?=w2.heap[k]?:=fun k hk=>by
         rw [←hU]
         exact (heap_setCell_other _ _ _ _ (by simpa using hk)).trans (heap_setCell_other _ _ _ _ (by simpa using hk))
        have hbU:Below w.heap.size w U:=by
         rw [←hU]
         exact ((hbV.trans (hb3.mono hbV.size)).setCell (by simp; omega) _).setCell (by simp; omega) _
        have hRU:=(HRb.out.call hb3).keep (hne _ (by omega))
        have hXU:=(HXb.out.call hb3).keep (hne _ (by omega))
        have d9:=(hbU.cell (p:=⟨g,8,none⟩) hgw).trans E8.out
        have y0:=hYU.cell (i:=0) rfl
        have y1:=hYU.cell (i:=1) rfl
        have y2:=hYU.cell (i:=2) rfl
        have hRl:=hRU.2.2
        have hXl:=hXU.2.2
        clear hU hYU hne z0 z1 z2 v0 v1 v2 v3 r0 r1 r2
        go_still_tail 6,(by kernel_rfl)
        change wpList _ _ _ _ _ U.drew
        go_wp2_with (
         at_mapUpdate
         refine wpList_mapUpdate_is _ rfl _ _ _ 213 rfl Tryz.underlying9 map_look_under rfl ((HM.out U hbU).keep rfl) (by unfold maxLen; omega) p hp (lookVal ⟨p,digestS x.bytes,x.run⟩) rfl rfl ?_
         intro w4 hm2 hg4
         obtain ⟨⟨r0,r1,r2⟩,⟨r3,r4,r5⟩,r6⟩:=hRU.keep (hg4.block _ hRl (fun e=>by cases e; omega))
         obtain ⟨⟨x0,x1,x2⟩,_,x6⟩:=hXU.keep (hg4.block _ hXl (fun e=>by cases e; omega))
         have HE:=Lib.hid (fun (w':World) (hb2:Below w.heap.size w4 w')=>HN.out _ _ w' hbU.drew hm2 hg4 hb2)
         clear hm2 hg4)
        exact bodyPost_ret (v:=.tuple #[.agg #[.string x.path,.bool x.run,.slice A n c],.bool true]) (by simp [results,Tryz.results244,go_sem, *]) rfl (HE.out _ (by repeat (first | exact Below.refl _ _ | refine Below.setCell ?_ (by simp) _)))
end Go.Proofs.Sm
namespace Go.Proofs.Sm
open Go.RowKit
theorem Sl.take {α:Type} [Rep α] {w:World} {S:Nat→Prop} {A:Option Addr} {n k:Nat} {l:List α} (h:Sl w S A n l) (hk:k≤n):Sl w S A k (l.take k):=by
 refine ⟨by rw [List.length_take,h.1]; omega,Nat.le_trans hk h.2.1,fun h0=>?_⟩
 obtain ⟨b,o,e,hb,hc⟩:=h.2.2 (by omega)
 refine ⟨b,o,e,hb,fun i x hx=>hc i x ?_⟩
 rw [List.getElem?_take] at hx
 split at hx
 ·exact hx
 ·cases hx
theorem Sl.drop1 {α:Type} [Rep α] {w:World} {S:Nat→Prop} {b o n k:Nat} {l:List α} (h1:Rep.sz α=1) (h:Sl w S (some ⟨b,o,none⟩) n l) (hk:k≤n):Sl w S (some ⟨b,o + k,none⟩) (n - k) (l.drop k):=by
 refine ⟨by rw [List.length_drop,h.1],Nat.le_trans (Nat.sub_le _ _) h.2.1,fun h0=>?_⟩
 obtain ⟨b',o',e,hb,hc⟩:=h.2.2 (by omega)
 cases e
 refine ⟨b,o + k,rfl,hb,fun i x hx=>?_⟩
 rw [List.getElem?_drop] at hx
 obtain ⟨vs,h3,h2⟩:=hc (k + i) x hx
 refine ⟨vs,h3,?_⟩
 rw [h1,Nat.mul_one] at h2 ⊢
 rw [Nat.add_assoc]
 exact h2
end Go.Proofs.Sm
namespace Go.Proofs.Sm
open Go.RowKit
def OwnB (w:World) (B:Nat) (e:TypeId) (v:Value) (o:List UInt8):Prop:=w.ownsRow B e 1 v o.length (Lib.byteCells o)
section
variable {w w':World} {B:Nat} {e:TypeId} {v:Value} {o:List UInt8}
theorem OwnB.nil (w:World) (B:Nat) (e:TypeId):OwnB w B e (.slice none 0 0) []:=World.ownsRow_nil _ _ _ _
theorem OwnB.keep (h:OwnB w B e v o) (hk:∀ g,v.ownBlock=some g→w'.heap[g]?=w.heap[g]?):OwnB w' B e v o:=by
 obtain ⟨h1,h2⟩:=h
 refine ⟨h1,?_⟩
 rcases h2 with h2 | ⟨g,cap,cur,rfl,hb,hh,hr⟩
 ·exact .inl h2
 ·exact .inr ⟨g,cap,cur,rfl,hb,(hk g rfl).trans hh,hr⟩
theorem OwnB.lt (h:OwnB w B e v o):∀ g,v.ownBlock=some g→B≤g∧g < w.heap.size:=fun g hg=>World.ownsRow.lt h g hg
theorem OwnB.call (h:OwnB w B e v o) (hb:Below w.heap.size w w'):OwnB w' B e v o:=h.keep fun g hg=>hb.block g (h.lt g hg).2
theorem OwnB.kp {X:Nat→Prop} (h:OwnB w B e v o) (hk:Kp X w w') (hX:∀ g,B≤g→¬ X g):OwnB w' B e v o:=h.keep fun g hg=>hk.block g (h.lt g hg).2 (hX g (h.lt g hg).1)
theorem OwnB.sl (h:OwnB w B e v o):∃ A c,v=.slice A o.length c∧o.length≤c∧c≤maxLen∧Sl w (fun k=>B≤k∧k < w.heap.size) A o.length o:=by
 have hcells:=fun g hg=>World.ownsRow.cells h (g:=g) hg
 have hlt:=h.lt
 rcases h.2 with ⟨rfl,h0⟩ | ⟨g,cap,cur,rfl,hb,hh,hnc,hcm,_,_⟩
 ·rw [h0]
  obtain rfl:o=[]:=List.eq_nil_of_length_eq_zero h0
  exact ⟨none,0,rfl,Nat.le_refl _,Nat.zero_le _,Sl.nil⟩
 ·refine ⟨some ⟨g,0,none⟩,cap,rfl,hnc,hcm,rfl,Nat.le_trans hnc hcm,fun hn=>⟨g,0,rfl,hlt g rfl,fun i x hx=>⟨[.int .u8 x.toNat],rfl,fun j u hu=>?_⟩⟩⟩
  have hj:j=0∧u=.int .u8 x.toNat:=by
   cases j with
   | zero=>simp at hu; exact ⟨rfl,hu.symm⟩
   | succ j=>simp at hu
  obtain ⟨rfl,rfl⟩:=hj
  have h3:=hcells g rfl i (.int .u8 x.toNat) (by rw [Lib.byteCells,List.getElem?_map,hx]; rfl)
  rw [addr_add] at h3
  simpa [Rep.sz] using h3
theorem byteCells_one {p:List UInt8}:∀ u∈Lib.byteCells p,u.oneCell'=true:=by
 intro u hu
 obtain ⟨x,_,rfl⟩:=List.mem_map.1 hu
 rfl
theorem byteCells_append (p o:List UInt8):Lib.byteCells (p ++ o)=Lib.byteCells p ++ Lib.byteCells o:=List.map_append
theorem byteCells_length (p:List UInt8):(Lib.byteCells p).length=p.length:=List.length_map ..
end
end Go.Proofs.Sm
namespace Go.Proofs.Sm
open Go.RowKit Go.Sort
def slLen:Value→Nat
 | .slice _ n _=>n
 | _=>0
def strOf (l:List UInt8):ByteArray:=⟨l.toArray⟩
theorem strOf_data (l:List UInt8):(strOf l).data.toList=l:=rfl
theorem strOf_size (l:List UInt8):(strOf l).size=l.length:=by simp [strOf,ByteArray.size]
def OwnS (w:World) (B:Nat) (e:TypeId) (v:Value) (l:List (List UInt8)):Prop:=w.ownsRow B e 1 v l.length (l.map encStr)
section
variable {w w':World} {B:Nat} {e:TypeId} {v:Value} {l:List (List UInt8)}
theorem OwnS.keep (h:OwnS w B e v l) (hk:∀ g,v.ownBlock=some g→w'.heap[g]?=w.heap[g]?):OwnS w' B e v l:=by
 obtain ⟨h1,h2⟩:=h
 refine ⟨h1,?_⟩
 rcases h2 with h2 | ⟨g,cap,cur,rfl,hb,hh,hr⟩
 ·exact .inl h2
 ·exact .inr ⟨g,cap,cur,rfl,hb,(hk g rfl).trans hh,hr⟩
theorem OwnS.lt (h:OwnS w B e v l):∀ g,v.ownBlock=some g→B≤g∧g < w.heap.size:=fun g hg=>World.ownsRow.lt h g hg
theorem OwnS.call (h:OwnS w B e v l) (hb:Below w.heap.size w w'):OwnS w' B e v l:=h.keep fun g hg=>hb.block g (h.lt g hg).2
theorem OwnS.form (h:OwnS w B e v l):(l=[]∧v=.slice none 0 0)∨∃ g cap cur,v=.slice (some ⟨g,0,none⟩) l.length cap∧B≤g∧w.heap[g]?=some (.cells cur e (0,0))∧l.length≤cap∧cap≤maxLen∧cur.size=cap * 1∧cur.toList.take l.length=l.map encStr:=by
 rcases h.2 with ⟨h1,h2⟩ | ⟨g,cap,cur,h1,h2,h3,h4,h5,h6,h7⟩
 ·exact .inl ⟨List.eq_nil_of_length_eq_zero h2,h1⟩
 ·exact .inr ⟨g,cap,cur,h1,h2,h3,h4,h5,h6,by rwa [Nat.mul_one] at h7⟩
theorem OwnS.cell {g k n cap:Nat} {x:List UInt8} (h:OwnS w B e (.slice (some ⟨g,0,none⟩) n cap) l) (hk:l[k]?=some x):w.cell? ⟨g,k,none⟩=some (.string (strOf x)):=by
 have:=World.ownsRow.cells h (g:=g) rfl k (.string (strOf x)) (by rw [List.getElem?_map,hk]; rfl)
 rw [addr_add,Nat.zero_add] at this
 exact this
theorem OwnS.frozen {g n cap:Nat} (h:OwnS w B e (.slice (some ⟨g,0,none⟩) n cap) l) (k:Nat):w.frozen? ⟨g,k,none⟩=false:=by
 rcases h.form with ⟨_,h1⟩ | ⟨g',cap',cur,h1,_,h3,_⟩
 ·cases h1
 ·cases h1
  exact Lib.frozen_of_heap h3 _
theorem OwnS.set {g n cap:Nat} (h:OwnS w B e (.slice (some ⟨g,0,none⟩) n cap) l) (k:Nat) (x:List UInt8):OwnS (w.setCell ⟨g,k,none⟩ (.string (strOf x))) B e (.slice (some ⟨g,0,none⟩) n cap) (l.set k x):=by
 rcases h.form with ⟨_,h1⟩ | ⟨g',cap',cur,h1,h2,h3,h4,h5,h6,h7⟩
 ·cases h1
 ·cases h1
  refine ⟨by simp,.inr ⟨g,cap,cur.setIfInBounds k (.string (strOf x)),by rw [List.length_set],h2,heap_setCell_same w g k _ _ _ h3,by rw [List.length_set]; exact h4,h5,by rw [Array.size_setIfInBounds]; exact h6,?_⟩⟩
  rw [Nat.mul_one,List.length_set,Array.toList_setIfInBounds,List.take_set,h7,List.map_set]
  rfl
theorem OwnS.holds {g n cap:Nat} (h:OwnS w B e (.slice (some ⟨g,0,none⟩) n cap) l):Holds encStr w g 0 l.toArray:=by
 rcases h.form with ⟨_,h1⟩ | ⟨g',cap',cur,h1,h2,h3,h4,h5,h6,h7⟩
 ·cases h1
 ·cases h1
  exact holds_of_block h3 h7
theorem OwnS.sorted {g cap n:Nat} {os:Array Obj} (h:OwnS w B e (.slice (some ⟨g,0,none⟩) l.length cap) l) (ts:List (List UInt8)) (hl:ts.length=l.length):OwnS (grow (putRow encStr (Sort.ahead w n) g 0 ts.toArray) os) B e (.slice (some ⟨g,0,none⟩) l.length cap) ts:=by
 rcases h.form with ⟨_,h1⟩ | ⟨g',cap',cur,h1,h2,h3,h4,h5,h6,h7⟩
 ·cases h1
 ·cases h1
  have:=ownsRow_sorted (n:=n) (os:=os) (ts:=ts) hl h2 h3 h4 h5 h6
  unfold OwnS
  rw [hl]
  exact this
theorem OwnS.front {g cap:Nat} {l2:List (List UInt8)} (h:OwnS w B e (.slice (some ⟨g,0,none⟩) (l ++ l2).length cap) (l ++ l2)):OwnS w B e (.slice (some ⟨g,0,none⟩) l.length cap) l:=by
 rcases h.form with ⟨_,h1⟩ | ⟨g',cap',cur,h1,h2,h3,h4,h5,h6,h7⟩
 ·cases h1
 ·cases h1
  rw [List.length_append] at h4 h7
  refine ⟨by simp,.inr ⟨g,cap,cur,rfl,h2,h3,by omega,h5,h6,?_⟩⟩
  have:=congrArg (List.take l.length) h7
  rw [List.take_take,Nat.min_eq_left (by omega),List.map_append,List.take_left' (by simp)] at this
  rw [Nat.mul_one]
  exact this
theorem OwnS.of (h:RowK w B e (fun _=>False) v (l.map strOf)):OwnS w B e v l:=by
 obtain ⟨_,rows,hr,hown,hrep⟩:=h
 rw [List.length_map] at hr hown
 have:rows=l.map fun x=>[encStr x]:=by
  refine List.ext_getElem (by simpa using hr) fun i h1 h2=>?_
  have h3:i < l.length:=by omega
  have:=(hrep i (strOf l[i]) rows[i] (by rw [List.getElem?_map,List.getElem?_eq_getElem h3]; rfl) (List.getElem?_eq_getElem h1)).1
  rw [this,List.getElem_map]
  rfl
 unfold OwnS
 have e1:∀ l:List (List UInt8),(l.map fun x=>[encStr x]).flatten=l.map encStr:=by
  intro l
  induction l with
  | nil=>rfl
  | cons x l ih=>rw [List.map_cons,List.flatten_cons,ih]; rfl
 rw [this,e1] at hown
 exact hown
end
end Go.Proofs.Sm
namespace Go.Proofs.Sm
open Go.RowKit
structure MemoryV where
 name:ByteArray
 action:ByteArray
 looks:List Look
 result:ResultV
instance:Rep MemoryV where
 sz:=8
 rep w S x vs:=∃ A n c B m d C p q,vs=[.string x.name,.string x.action,.slice A n c,.int .i64 x.result.code,.string x.result.text,.slice B m d,.slice C p q,.int .i64 x.result.command] ∧
  (x.name.size≤maxLen∧x.action.size≤maxLen∧x.result.text.size≤maxLen∧InInt x.result.code∧InInt x.result.command)∧(n≤c∧c≤maxLen∧m≤d∧d≤maxLen∧p≤q∧q≤maxLen) ∧
  (Sl w S A n x.looks∧Sl w S B m x.result.files∧Sl w S C p x.result.looks)
 len h:=by obtain ⟨A,n,c,B,m,d,C,p,q,rfl,_⟩:=h; rfl
 keep hk h:=by
  obtain ⟨A,n,c,B,m,d,C,p,q,h0,h1,h2,a1,a2,a3⟩:=h
  exact ⟨A,n,c,B,m,d,C,p,q,h0,h1,h2,a1.keep hk,a2.keep hk,a3.keep hk⟩
 more hs h:=by
  obtain ⟨A,n,c,B,m,d,C,p,q,h0,h1,h2,a1,a2,a3⟩:=h
  exact ⟨A,n,c,B,m,d,C,p,q,h0,h1,h2,a1.more hs,a2.more hs,a3.more hs⟩
theorem Sl.memory {w:World} {S:Nat→Prop} {A:Option Addr} {n k:Nat} {l:List MemoryV} (h:Sl w S A n l) (hk:k < n) :
 ∃ b o x,A=some ⟨b,o,none⟩∧S b∧l[k]?=some x∧∃ A1 n1 c1 A2 n2 c2 A3 n3 c3,
  (x.name.size≤maxLen∧x.action.size≤maxLen∧x.result.text.size≤maxLen∧InInt x.result.code∧InInt x.result.command)∧(n1≤c1∧c1≤maxLen∧n2≤c2∧c2≤maxLen∧n3≤c3∧c3≤maxLen) ∧
  (Sl w S A1 n1 x.looks∧Sl w S A2 n2 x.result.files∧Sl w S A3 n3 x.result.looks) ∧
  (w.cell? ⟨b,o + k * 8,none⟩=some (.string x.name)∧w.cell? ⟨b,o + k * 8 + 1,none⟩=some (.string x.action)∧w.cell? ⟨b,o + k * 8 + 2,none⟩=some (.slice A1 n1 c1)∧w.cell? ⟨b,o + k * 8 + 3,none⟩=some (.int .i64 x.result.code) ∧
    w.cell? ⟨b,o + k * 8 + 4,none⟩=some (.string x.result.text)∧w.cell? ⟨b,o + k * 8 + 5,none⟩=some (.slice A2 n2 c2)∧w.cell? ⟨b,o + k * 8 + 6,none⟩=some (.slice A3 n3 c3)∧w.cell? ⟨b,o + k * 8 + 7,none⟩=some (.int .i64 x.result.command)):=by
 have hk':k < l.length:=by rw [h.1]; exact hk
 obtain ⟨b,o,vs,e,hb,hr,ha⟩:=h.at hk'
 obtain ⟨A1,n1,c1,A2,n2,c2,A3,n3,c3,rfl,h1,h2,h3⟩:=hr
 exact ⟨b,o,_,e,hb,List.getElem?_eq_getElem hk',A1,n1,c1,A2,n2,c2,A3,n3,c3,h1,h2,h3,ha 0 _ rfl,ha 1 _ rfl,ha 2 _ rfl,ha 3 _ rfl,ha 4 _ rfl,ha 5 _ rfl,ha 6 _ rfl,ha 7 _ rfl⟩
def checkMemS (m:MemoryV):Int :=
 if (isPathS m.name && isDigestS m.action)=false then 3
 else if checkLooksS m.looks≠0 then checkLooksS m.looks
 else if checkResultS m.result≠0 then checkResultS m.result
 else if m.result.code≠0 then 11
 else if sameLooksS m.looks m.result.looks=false then 12
 else 0
def memErr (prev:Option ByteArray) (m:MemoryV):Int:=if checkMemS m≠0 then checkMemS m else if notAfter prev m.name then 8 else 0
def checkMemoryS (l:List MemoryV):Int:=if 500 < (l.length:Int) then 2 else listErr memErr MemoryV.name none l
end Go.Proofs.Sm
