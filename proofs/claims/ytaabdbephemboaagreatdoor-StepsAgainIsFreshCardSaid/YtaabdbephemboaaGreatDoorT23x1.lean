/- After any changes of the files, with what was remembered before, a build makes what it makes from nothing, without commands list, if no two contents have one digest: the given statement, for all arguments; no condition. -/
import Derived.Test.YtaabdbephemboaaGreatDoorBx1
import Derived.Test.YtaabdbephemboaaGreatDoorBx2
import Derived.Test.YtaabdbephemboaaGreatDoorBx3
import Derived.Test.YtaabdbephemboaaGreatDoorBx4
import Derived.Test.YtaabdbephemboaaGreatDoorBx5
import Derived.Test.YtaabdbephemboaaGreatDoorBx6
import Derived.Test.YtaabdbephemboaaGreatDoorBx7
import Derived.Test.YtaabdbephemboaaGreatDoorBx8
import Derived.Test.YtaabdbephemboaaGreatDoorBx9
import Derived.Test.YtaabdbephemboaaGreatDoorBx10
import Derived.Test.YtaabdbephemboaaGreatDoorBx11
import Derived.Test.YtaabdbephemboaaGreatDoorBx12
import Derived.Test.YtaabdbephemboaaGreatDoorBx13
import Derived.Test.YtaabdbephemboaaGreatDoorBx14
import Derived.Test.YtaabdbephemboaaGreatDoorBx15
import Derived.Test.YtaabdbephemboaaGreatDoorBx16
import Derived.Test.YtaabdbephemboaaGreatDoorBx17
import Derived.Test.YtaabdbephemboaaGreatDoorBx18
import Derived.Test.YtaabdbephemboaaGreatDoorBx19
import Derived.Test.YtaabdbephemboaaGreatDoorBx20
import Derived.Test.YtaabdbephemboaaGreatDoorBx21
import Derived.Test.YtaabdbephemboaaGreatDoorBx22
import Derived.Test.YtaabdbephemboaaGreatDoorBx23
import Derived.Test.YtaabdbephemboaaGreatDoorBx24
import Derived.Test.YtaabdbephemboaaGreatDoorBx25
import Derived.Test.YtaabdbephemboaaGreatDoorBx26
import Derived.Test.YtaabdbephemboaaGreatDoorBx27
import Derived.Test.YtaabdbephemboaaGreatDoorBx28
import Derived.Test.YtaabdbephemboaaGreatDoorBx29
import Derived.Test.YtaabdbephemboaaGreatDoorBx30
import Derived.Test.YtaabdbephemboaaGreatDoorBx31
import Derived.Test.YtaabdbephemboaaGreatDoorBx32
import Derived.Test.YtaabdbephemboaaGreatDoorBx33
import Derived.Test.YtaabdbephemboaaGreatDoorBx34
import Derived.Test.YtaabdbephemboaaGreatDoorBx35
import Derived.Test.YtaabdbephemboaaGreatDoorBx36
import Derived.Laws.BitsAllLaws
import Derived.Lib.Replace
import Derived.Lib.SlicesCompact
import Derived.Deep.RegionHeld3
namespace Go.Proofs.Sm
open Go.RowKit
theorem digit_shift (h j:Nat) (hj:j < 16):((h:Int) / 2 ^ (60 - 4 * j)).tmod 16=((h / 16 ^ (15 - j) % 16:Nat):Int):=by
 have e:(2:Int) ^ (60 - 4 * j)=((16 ^ (15 - j):Nat):Int):=by
  rw [show 60 - 4 * j=4 * (15 - j) by omega,Int.pow_mul]
  norm_cast
 rw [e,Int.tmod_eq_emod_of_nonneg (Int.ediv_nonneg (Int.natCast_nonneg _) (Int.natCast_nonneg _))]
 norm_cast
theorem hexPiece (d:Nat) (hd:d < 16):(⟨#[48,49,50,51,52,53,54,55,56,57,97,98,99,100,101,102]⟩:ByteArray).extract d (d + 1)=⟨[hexChar d].toArray⟩:=by
 have key:∀ d:Fin 16,(⟨#[48,49,50,51,52,53,54,55,56,57,97,98,99,100,101,102]⟩:ByteArray).extract d.val (d.val + 1)=⟨[hexChar d.val].toArray⟩:=by decide +kernel
 exact key ⟨d,hd⟩
theorem bytes_append (a b:List UInt8):(⟨a.toArray⟩:ByteArray) ++ ⟨b.toArray⟩=⟨(a ++ b).toArray⟩:=by
 apply ByteArray.ext
 simp
end Go.Proofs.Sm
namespace Go.Proofs.Sm
open Go.RowKit
set_option maxRecDepth 100000 in
theorem ref1_Digest (A:Option Addr) (n c:Nat) (l:List UInt8) (w:World) (hsl:Sl w (Lt w.heap.size) A n l):Calls Tryz.prog 27 #[.slice A n c] w fun e w'=>e=.returned (.string (digestS l))∧w=w':=by
 have hm:n≤9223372036854775807:=hsl.2.1
 go_enter Tryz.func27,Tryz.ntmps27
 go_wp2
 go_loop [3,4] (fun h i=>∃ k:Nat,k≤n∧i=.int .i64 k∧h=.int .u64 (fnv (l.take k):Nat)) (fun _ i=>n - (intOf i).toNat)
 case atStart=>exact ⟨0,Nat.zero_le _,rfl,by rw [fnv_zero]; rfl⟩
 case round =>
  obtain ⟨k,hk,rfl,rfl⟩:=hrel
  by_cases hlt:k < n
  ·obtain ⟨b,o,x,rfl,hb,hx,c0⟩:=hsl.byte hlt
   have Hs:=Lib.hid (fnv_succ hx); clear hx
   have Hw:=Lib.hid (fnv_walk _ (fnv_lt (l.take k)) x)
   have h0:(0:Int)≤(fnv (l.take k):Nat):=Int.natCast_nonneg _
   go_wp2
   go_round
   case rel=>exact ⟨k + 1,by omega,by go_num,by rw [Hw.out,Hs.out]⟩
   case measure=>simp [intOf]; omega
  ·have Hl:=Lib.hid (show l.take k=l from List.take_of_length_le (by rw [hsl.1]; omega))
   have HU:=Lib.hid (fnv_lt (l.take k))
   generalize hH:fnv (l.take k)=H at *
   have HH:=Lib.hid hH; clear hH
   go_wp2
   go_loop [5,6,7] (fun s i _=>∃ j:Nat,j≤16∧i=.int .i64 (60 - 4 * (j:Int))∧s=.string ⟨((List.range j).map fun i=>hexChar (H / 16 ^ (15 - i) % 16)).toArray⟩) (fun _ i _=>(intOf i + 4).toNat)
   case atStart=>exact ⟨0,by omega,rfl,rfl⟩
   case round =>
    obtain ⟨j,hj,rfl,rfl⟩:=hrel
    by_cases hj':j < 16
    ·have hdg:=digit_shift H j hj'
     have hlt16:H / 16 ^ (15 - j) % 16 < 16:=Nat.mod_lt _ (by decide)
     generalize hd:H / 16 ^ (15 - j) % 16=d at *
     have Hd:=Lib.hid hd; clear hd
     have hwr:IntKind.u64.wrap ((d:Int) + 1)=(d:Int) + 1:=by rw [IntKind.wrap_u64]; omega
     have hle:(d:Int) + 1≤16:=by omega
     go_wp2
     go_round
     case rel=>exact ⟨j + 1,by omega,by congr 1; omega,by rw [hexPiece d hlt16,bytes_append,List.range_succ,List.map_append,List.map_cons,List.map_nil,Hd.out]⟩
     case measure=>simp [intOf]; omega
    ·obtain rfl:j=16:=by omega
     have Hr:=Lib.hid (digestS_eq (l:=l) (h:=H) (by rw [←HH.out,Hl.out]))
     generalize (⟨((List.range 16).map fun i=>hexChar (H / 16 ^ (15 - i) % 16)).toArray⟩:ByteArray)=r at *
     go_wp2
     go_ret
     exact ⟨ret_string Hr.out.symm,rfl⟩
end Go.Proofs.Sm
namespace Go.Proofs.Sm
open Go.RowKit
def AgreeOn (F F':List FileV) (l:List Look):Prop:=∀ y∈l,F.find? (eqp y.path)=F'.find? (eqp y.path)
structure Local {α:Type} (m:Ex α):Prop where
 grow:∀ F s,∀ y∈s.looks,y∈(m F s).2.looks
 same:∀ F F' s,AgreeOn F F' (m F s).2.looks→m F' s=m F s
section
variable {α β:Type}
theorem local_ret (a:α):Local (Ex.ret a):=⟨fun _ _ _ h=>h,fun _ _ _ _=>rfl⟩
theorem Local.bind {m:Ex α} {f:α→Ex β} (h:Local m) (hf:∀ a,Local (f a)):Local (m.bind f):=by
 refine ⟨fun F s y hy=>(hf _).grow F _ y (h.grow F s y hy),fun F F' s hag=>?_⟩
 have h1:m F' s=m F s:=h.same F F' s fun y hy=>hag y ((hf _).grow F _ y hy)
 unfold Ex.bind
 rw [h1]
 exact (hf _).same F F' _ hag
theorem local_own {m:Ex α} (h1:∀ F s,(m F s).2.looks=s.looks) (h2:∀ F F' s,m F' s=m F s):Local m :=
 ⟨fun F s y hy=>by rw [h1]; exact hy,fun F F' s _=>h2 F F' s⟩
end
theorem note_old {l:List Look} {x y:Look} (h:y∈l) (hs:∀ z∈l,ltS z.path x.path=true∨z.path.toList=x.path.toList∨ltS x.path z.path=true):y∈noteS l x:=by
 unfold noteS
 split
 ·exact h
 ·rename_i hn
  have hne:¬ y.path.toList=x.path.toList:=fun e=>hn (List.any_eq_true.2 ⟨y,h,by simpa using e⟩)
  rcases hs y h with h1 | h1 | h1
  ·exact List.mem_append.2 (.inl (List.mem_append.2 (.inl (List.mem_filter.2 ⟨h,h1⟩))))
  ·exact absurd h1 hne
  ·exact List.mem_append.2 (.inr (List.mem_filter.2 ⟨h,h1⟩))
theorem note_has (l:List Look) (x:Look):∃ y∈noteS l x,y.path.toList=x.path.toList:=by
 unfold noteS
 split
 ·rename_i h
  obtain ⟨y,hy,he⟩:=List.any_eq_true.1 h
  exact ⟨y,hy,by simpa using he⟩
 ·exact ⟨x,by simp,rfl⟩
theorem eqp_congr {p q:ByteArray} (h:p.toList=q.toList):eqp p=eqp q:=by
 funext y; rw [eqp,eqp,h]
theorem local_find (p:ByteArray):Local (findE p):=by
 refine ⟨fun F s y hy=>?_,fun F F' s hag=>?_⟩
 ·unfold findE
  split
  ·exact hy
  ·exact note_old hy fun z _=>ltS_total _ _
 ·unfold findE at hag ⊢
  cases hw:s.written.find? (eqp p) with
  | some x=>rfl
  | none =>
    rw [hw] at hag
    obtain ⟨y,hy,he⟩:=note_has s.looks (lookAtS F p)
    rw [lookAt_path] at he
    have h1:=hag y hy
    rw [eqp_congr he] at h1
    have h2:lookAtS F' p=lookAtS F p:=by rw [lookAtS,lookAtS,h1]
    simp only [h1,h2]
theorem local_read (p:ByteArray):Local (readE p):=(local_find p).bind fun x=>by cases x <;> exact local_ret _
theorem local_write (outs:List ByteArray) (p:ByteArray) (b:List UInt8) (run:Bool):Local (writeE outs p b run) :=
 local_own (fun F s=>by unfold writeE; split <;> (try split) <;> rfl) fun _ _ _=>rfl
theorem local_tell (ws:List ByteArray):Local (tellE ws):=local_own (fun F s=>by unfold tellE; split <;> rfl) fun _ _ _=>rfl
theorem local_each {f:ByteArray→List UInt8→Nat→Ex (List UInt8 × Nat × Int)} (hf:∀ p o r,Local (f p o r)):∀ l o r,Local (eachE f l o r)
 | [],o,r=>local_ret _
 | s :: rest,o,r=>by
   unfold eachE
   split
   ·refine (hf _ o r).bind fun x=>?_
    split
    ·exact local_each hf rest _ _
    ·exact local_ret _
   ·split
    ·exact local_ret _
    ·exact local_each hf rest _ _
theorem local_file:∀ fuel inn p o r,Local (fileE fuel inn p o r)
 | 0,_,_,_,_=>local_ret _
 | fuel + 1,inn,p,o,r=>by
   unfold fileE
   split
   ·exact local_ret _
   ·refine (local_read p).bind fun x=>?_
    split
    ·split
     ·exact local_ret _
     ·exact local_each (fun p o r=>local_file fuel _ p o r) _ _ _
    ·exact local_ret _
theorem local_joined:∀ l o,Local (joinedE l o)
 | [],_=>local_ret _
 | p :: rest,o=>by
   unfold joinedE
   refine (local_read p).bind fun x=>?_
   split
   ·exact local_joined rest _
   ·exact local_ret _
theorem local_pick:∀ l,Local (pickE l)
 | []=>local_ret _
 | p :: rest=>by
   unfold pickE
   refine (local_find p).bind fun x=>?_
   cases x
   ·exact local_pick rest
   ·exact local_ret _
def isList (c:List ByteArray):Bool:=(wordAt c 0).data.toList == [108,105,115,116]
theorem local_made (vars:List VarV) (c:List ByteArray) (h:isList c=false):Local (madeE vars c):=by
 unfold madeE
 have hl:¬ (wordAt c 0).data.toList=[108,105,115,116]:=by simpa [isList] using h
 simp only [hl,if_false]
 split
 ·exact local_joined _ _
 split
 ·exact (local_file _ _ _ _ _).bind fun x=>local_ret _
 split
 ·exact local_pick _
 split
 ·exact local_ret _
 ·refine (local_read _).bind fun x=>?_
  split <;> exact local_ret _
theorem local_do (a:ActionV) (c:List ByteArray) (h:isList c=false):Local (doE a c):=by
 unfold doE
 dsimp only
 split
 ·exact local_tell _
 split
 ·exact (local_read _).bind fun x=>local_ret _
 split
 ·unfold sameE
  refine (local_read _).bind fun x=>?_
  split
  ·refine (local_read _).bind fun y=>?_
   split
   ·split <;> exact local_ret _
   ·exact local_ret _
  ·exact local_ret _
 split
 ·exact local_ret _
 ·refine (local_made a.vars c h).bind fun x=>?_
  split
  ·exact local_write _ _ _ _
  ·exact local_ret _
theorem local_run (a:ActionV):∀ l i,l.any isList=false→Local (runE a l i)
 | [],_,_=>local_own (fun _ _=>rfl) fun _ _ _=>rfl
 | c :: rest,i,h=>by
   rw [List.any_cons,Bool.or_eq_false_iff] at h
   unfold runE
   refine (local_do a c h.1).bind fun x=>?_
   split
   ·exact local_run a rest _ h.2
   ·exact local_ret _
theorem looks_decide {a:ActionV} {F F':List FileV} (h:a.commands.any isList=false) (hag:AgreeOn F F' (execS a F).looks):execS a F'=execS a F:=by
 have h1:=(local_run a a.commands 0 h).same F F' startS hag
 unfold execS
 rw [h1]
end Go.Proofs.Sm
namespace Go.Proofs.Sm
open Go.RowKit
theorem findM_same (l:List MemoryV) (r:RuleV) (x:ResultV):findM (putM l (memOf r x)) r.name=some (memOf r x):=by
 rw [findM_put]; exact if_pos rfl
theorem findM_other {l:List MemoryV} {r:RuleV} {x:ResultV} {n:ByteArray} (h:¬ n.toList=r.name.toList):findM (putM l (memOf r x)) n=findM l n:=by
 rw [findM_put]; exact if_neg h
section
variable {l:List RuleV} {mem:List MemoryV} {k:Nat} {ks:List Nat} {s:BSt} {r:RuleV}
theorem execOut_cases (r:RuleV) (F:List FileV) (m:Option MemoryV):(bothErr r.action F≠0∧execOut r F m=⟨0,false,none,bothErr r.action F⟩)∨(bothErr r.action F=0∧(execS r.action F).code≠0∧execOut r F m=⟨3,false,none,0⟩) ∨
 (bothErr r.action F=0∧(execS r.action F).code=0∧execOut r F m=⟨1,m.any fun y=>sameFsS y.result.files (execS r.action F).files,some (execS r.action F),0⟩):=by
 unfold execOut
 by_cases h:bothErr r.action F=0
 ·rw [if_neg (by simpa using h)]
  by_cases h1:(execS r.action F).code=0
  ·rw [if_neg (by simpa using h1)]; exact .inr (.inr ⟨h,h1,rfl⟩)
  ·rw [if_pos h1]; exact .inr (.inl ⟨h,h1,rfl⟩)
 ·rw [if_pos h]; exact .inl ⟨h,rfl⟩
theorem outS_none {g:Graph} (h:findM mem r.name=none):outS g mem r k s=if (needAt g k).any (isOf s.bad) then ⟨4,false,none,0⟩ else execOut r (inputsS s.have_ r) none:=by
 unfold outS
 rw [h]
theorem outS_some {g:Graph} {m:MemoryV} (h:findM mem r.name=some m):outS g mem r k s=if (needAt g k).any (isOf s.bad) then ⟨4,false,none,0⟩ else if memStands r m (inputsS s.have_ r) then ⟨2,false,some m.result,0⟩ else execOut r (inputsS s.have_ r) (some m):=by
 unfold outS
 rw [h]
end
def NamesOff (l:List RuleV) (ks:List Nat) (n:ByteArray):Prop:=∀ k∈ks,∀ r,l[k]?=some r→¬ r.name.toList=n.toList
theorem kept_stay {l:List RuleV} {mem:List MemoryV} {n:ByteArray}:∀ {ks:List Nat} {s:BSt},NamesOff l ks n→findM (stepsS l mem ks s).2.kept n=findM s.kept n
 | [],_,_=>rfl
 | k :: ks,s,h=>by
   have h':NamesOff l ks n:=fun j hj=>h j (List.mem_cons_of_mem _ hj)
   cases hr:l[k]? with
   | none=>rw [stepsS,hr]; exact kept_stay h'
   | some r =>
     by_cases hf:(outS (needsS l) mem r k s).fault=0
     ·rw [steps_go hr hf,kept_stay h']
      unfold takeS
      cases (outS (needsS l) mem r k s).res with
      | none=>rfl
      | some x =>
        show findM (putM s.kept (memOf r x)) n=_
        exact findM_other fun e=>h k (List.mem_cons_self ..) r hr e.symm
     ·rw [steps_stop hr hf]
end Go.Proofs.Sm
namespace Go.Proofs.Sm
open Go.RowKit
theorem word0_nil (v:List UInt8) (hv:v≠[]):((wordAt [] 0).data.toList == v)=false:=by
 cases v with
 | nil=>exact absurd rfl hv
 | cons x v=>rfl
theorem word0_at {c:List ByteArray} {y:ByteArray} (h:c[0]?=some y) (v:List UInt8):((wordAt c 0).data.toList == v)=(y.toList == v):=by
 rw [wordAt,h,ByteArray.toList_eq]; rfl
end Go.Proofs.Sm
namespace Go.Proofs.Sm
open Go.RowKit
theorem list_eq {x y:ByteArray} (h:x.toList=y.toList):x=y:=bytes_eq (by rw [←Lib.toList_data,←Lib.toList_data]; exact h)
end Go.Proofs.Sm
namespace Go.Proofs.Sm
open Go.RowKit
theorem bytes_Equal (A A':Option Addr) (n n' c c':Nat) (l:List UInt8) (w:World) (S:Nat→Prop) (h:Sl w S A n l) (h':Sl w S A' n' l) :
 Calls Tryz.prog 28 #[.slice A n c,.slice A' n' c'] w fun e w'=>e=.returned (.bool true)∧w=w':=by
 have r1:=run_bytes_string (P:=Tryz.prog) h 75 9 5 c Tryz.underlying75 Tryz.underlying5 Tryz.underlying9
 have r2:=run_bytes_string (P:=Tryz.prog) h' 75 9 5 c' Tryz.underlying75 Tryz.underlying5 Tryz.underlying9
 generalize (⟨l.toArray⟩:ByteArray)=s at r1 r2
 go_enter Tryz.func28,Tryz.ntmps28
 go_wp2
 go_ret
 exact ⟨rfl,rfl⟩
set_option maxRecDepth 100000 in
theorem ref1_SameFile (x:FileV) (A A':Option Addr) (n n' c c':Nat) (w:World) (h:Sl w (Lt w.heap.size) A n x.bytes) (h':Sl w (Lt w.heap.size) A' n' x.bytes) :
 Calls Tryz.prog 29 #[.agg #[.string x.path,.bool x.run,.slice A n c],.agg #[.string x.path,.bool x.run,.slice A' n' c']] w fun e w'=>e=.returned (.bool true)∧Below w.heap.size w w':=by
 go_enter Tryz.func29,Tryz.ntmps29
 go_wp2_with fail
 have hb:=fr_alloc (fr_alloc (fr_refl w) (.cells #[.string x.path,.bool x.run,.slice A n c] 78)) (.cells #[.string x.path,.bool x.run,.slice A' n' c'] 78)
 refine (bytes_Equal A A' n n' c c' x.bytes _ (Lt w.heap.size) (h.keep (keep_lt hb)) (h'.keep (keep_lt hb))).mono ?_
 rintro e w1 ⟨rfl,rfl⟩
 go_wp2
 go_ret
 exact ⟨rfl,hb⟩
set_option maxRecDepth 100000 in
theorem ref1_SameFiles (A A':Option Addr) (n c c':Nat) (l:List FileV) (w:World) (h:Sl w (Lt w.heap.size) A n l) (h':Sl w (Lt w.heap.size) A' n l) :
 Calls Tryz.prog 16 #[.slice A n c,.slice A' n c'] w fun e w'=>e=.returned (.bool true)∧Below w.heap.size w w':=by
 have hm:n≤9223372036854775807:=h.2.1
 go_enter Tryz.func16,Tryz.ntmps16
 go_wp2
 go_loopw [5] (fun i wr=>∃ k:Nat,k≤n∧i=.int .i64 k∧Below w.heap.size w wr) (fun i _=>n - (intOf i).toNat)
 case atStart=>exact ⟨0,Nat.zero_le _,rfl,fr_refl w⟩
 case round =>
  obtain ⟨k,hk,rfl,hbel⟩:=hrel
  by_cases hlt:k < n
  ·obtain ⟨g1,o1,x1,A1,n1,c1,rfl,hb1,hx1,hp1,_,_,s1,p0,p1,p2⟩:=(h.keep (keep_lt hbel)).file hlt
   obtain ⟨g2,o2,x2,A2,n2,c2,rfl,hb2,hx2,hp2,_,_,s2,q0,q1,q2⟩:=(h'.keep (keep_lt hbel)).file hlt
   obtain rfl:x1=x2:=by rw [hx1] at hx2; exact Option.some.inj hx2
   have hkI:(k:Int) < (n:Int):=by omega
   have hg1:g1 < w.heap.size:=hb1
   have hg2:g2 < w.heap.size:=hb2
   have HK:=Lib.hid (show ∀ w',Below w.heap.size w w'→(Below w.heap.size w w'∧w'.cell? ⟨g1,o1 + k * 3,none⟩=some (.string x1.path)∧w'.cell? ⟨g1,o1 + k * 3 + 1,none⟩=some (.bool x1.run)∧w'.cell? ⟨g1,o1 + k * 3 + 2,none⟩=some (.slice A1 n1 c1) ∧
    w'.cell? ⟨g2,o2 + k * 3,none⟩=some (.string x1.path)∧w'.cell? ⟨g2,o2 + k * 3 + 1,none⟩=some (.bool x1.run)∧w'.cell? ⟨g2,o2 + k * 3 + 2,none⟩=some (.slice A2 n2 c2)) from fun w' hw=>by
    have e1:∀ o,w'.cell? ⟨g1,o,none⟩=_:=fun o=>(hw.cell (p:=⟨g1,o,none⟩) hg1).trans (hbel.cell (p:=⟨g1,o,none⟩) hg1).symm
    have e2:∀ o,w'.cell? ⟨g2,o,none⟩=_:=fun o=>(hw.cell (p:=⟨g2,o,none⟩) hg2).trans (hbel.cell (p:=⟨g2,o,none⟩) hg2).symm
    exact ⟨hw,(e1 _).trans p0,(e1 _).trans p1,(e1 _).trans p2,(e2 _).trans q0,(e2 _).trans q1,(e2 _).trans q2⟩)
   have hs1:∀ w',Below w.heap.size w w'→Sl w' (Lt w'.heap.size) A1 n1 x1.bytes:=fun w' hw=>((s1.keep (fun q hq=>(hw.block q hq).trans (hbel.block q hq).symm)).more (lt_mono hw.size))
   have hs2:∀ w',Below w.heap.size w w'→Sl w' (Lt w'.heap.size) A2 n2 x1.bytes:=fun w' hw=>((s2.keep (fun q hq=>(hw.block q hq).trans (hbel.block q hq).symm)).more (lt_mono hw.size))
   have HC:=Lib.hid (fun w' (hw:Below w.heap.size w w')=>ref1_SameFile x1 A1 A2 n1 n2 c1 c2 w' (hs1 w' hw) (hs2 w' hw))
   clear hs1 hs2 hx1 hx2 p0 p1 p2 q0 q1 q2 s1 s2
   obtain ⟨_,p0,p1,p2,q0,q1,q2⟩:=HK.out _ hbel
   go_wp2
   go_region_held3 (fun w'=>Below w.heap.size w w'∧w'.cell? ⟨g1,o1 + k * 3,none⟩=some (.string x1.path)∧w'.cell? ⟨g1,o1 + k * 3 + 1,none⟩=some (.bool x1.run)∧w'.cell? ⟨g1,o1 + k * 3 + 2,none⟩=some (.slice A1 n1 c1) ∧
    w'.cell? ⟨g2,o2 + k * 3,none⟩=some (.string x1.path)∧w'.cell? ⟨g2,o2 + k * 3 + 1,none⟩=some (.bool x1.run)∧w'.cell? ⟨g2,o2 + k * 3 + 2,none⟩=some (.slice A2 n2 c2))
    (first | assumption | exact HK.out _ hbel.drew | exact HK.out _ (fr_call (And.left (by assumption)) hbc))
    (first | (go_at_call 29; refine (HC.out _ (And.left (by assumption))).mono ?_; rintro e wc ⟨rfl,hbc⟩))
   have hb9:Below w.heap.size w wc:=And.left (by assumption)
   go_wp2
   go_roundw
   case rel=>exact ⟨k + 1,by omega,by go_num,hb9⟩
   case measure=>simp [intOf]; omega
  ·go_wp2
   go_ret
   exact ⟨rfl,hbel⟩
end Go.Proofs.Sm
namespace Go.Proofs.Sm
open Go.RowKit
def KeptRight (l:List RuleV) (order:List Nat) (kept:List MemoryV):Prop :=
 ByPath MemoryV.name kept∧∀ y∈kept,∃ k r F,k∈order∧l[k]?=some r∧bothErr r.action F=0∧(execS r.action F).code=0∧y=memOf r (execS r.action F)
theorem steps_kept {l:List RuleV} {O:List Nat}:∀ {ks:List Nat} {s:BSt},(∀ k∈ks,k∈O)→KeptRight l O s.kept→KeptRight l O (stepsS l [] ks s).2.kept
 | [],_,_,h=>h
 | k :: ks,s,hO,h=>by
   cases hr:l[k]? with
   | none=>rw [stepsS,hr]; exact steps_kept (fun j hj=>hO j (List.mem_cons_of_mem _ hj)) h
   | some r =>
     by_cases hf:(outS (needsS l) [] r k s).fault=0
     ·rw [steps_go hr hf]
      refine steps_kept (fun j hj=>hO j (List.mem_cons_of_mem _ hj)) ?_
      have hout:=outS_none (g:=needsS l) (mem:=[]) (r:=r) (k:=k) (s:=s) rfl
      unfold takeS
      by_cases hd:(needAt (needsS l) k).any (isOf s.bad)=true
      ·rw [if_pos hd] at hout
       rw [hout]; exact h
      ·rw [if_neg hd] at hout
       rcases execOut_cases r (inputsS s.have_ r) none with ⟨hb,he⟩ | ⟨hb,hc,he⟩ | ⟨hb,hc,he⟩
       ·rw [hout,he]; exact h
       ·rw [hout,he]; exact h
       ·rw [hout,he]
        refine ⟨byPath_put (key:=MemoryV.name) h.1 _,fun y hy=>?_⟩
        rcases put_mem_by hy with hy | rfl
        ·exact h.2 y hy
        ·exact ⟨k,r,_,hO k (List.mem_cons_self ..),hr,hb,hc,rfl⟩
     ·rw [steps_stop hr hf]; exact h
theorem memOf_right {l:List RuleV} (hl:RulesOk l) {k:Nat} {r:RuleV} {F:List FileV} (hr:l[k]?=some r) (hb:bothErr r.action F=0) (hc:(execS r.action F).code=0):checkMemS (memOf r (execS r.action F))=0:=by
 obtain ⟨h1,h2,_⟩:=exec_right hb
 have hp:=(checkRule_parts (hl.at hr)).1
 have hd:=digest_right (actTextL r.action)
 unfold checkMemS memOf
 simp only
 rw [hp,hd,h1.right,h2.right,hc,sameLooksS_iff.2 rfl]
 rfl
theorem runB_nil (l:List RuleV) (files:List FileV) (order:List Nat):runB l files [] order=stepsS l [] order ⟨files,List.replicate l.length false,[],[]⟩:=rfl
theorem fresh_memory {l:List RuleV} {files:List FileV} {wanted:List ByteArray} {order:List Nat} (h:buildErr l files wanted [] order=0) :
 checkMemoryS (runB l files [] order).2.kept=0∧servesS l (runB l files [] order).2.kept=(runB l files [] order).2.kept∧startB l files (runB l files [] order).2.kept order=⟨files,List.replicate l.length false,[],[]⟩:=by
 obtain ⟨h1,_,h3⟩:=buildErr_parts h
 obtain ⟨hl,hb⟩:=rules_parts_by (planErr_rules (buildErr0_parts h1).1)
 have hk:KeptRight l order (runB l files [] order).2.kept:=by
  rw [runB_nil]
  exact steps_kept (fun k hk=>hk) ⟨List.Pairwise.nil,fun y hy=>absurd hy (List.not_mem_nil)⟩
 refine ⟨memory_fine (endErr_few h3).2 hk.1 fun y hy=>?_,?_,?_⟩
 ·obtain ⟨k,r,F,_,hr,hbo,hc,rfl⟩:=hk.2 y hy
  exact memOf_right hl hr hbo hc
 ·unfold servesS
  rw [List.filter_eq_self]
  intro y hy
  obtain ⟨k,r,F,_,hr,hbo,hc,rfl⟩:=hk.2 y hy
  have hi:idxName l (memOf r (execS r.action F)).name=some k:=idxName_own hb hr rfl
  unfold servesP
  rw [hi]
  simp only [hr,Option.any_some]
  exact decide_eq_true ((exec_right hbo).2.1.good hc)
 ·unfold startB
  congr 1
  rw [List.filter_eq_nil_iff]
  intro y hy
  obtain ⟨k,r,F,hko,hr,hbo,hc,rfl⟩:=hk.2 y hy
  have:(order.any fun k=>(nameAt l k).toList == (memOf r (execS r.action F)).name.toList)=true:=List.any_eq_true.2 ⟨k,hko,by rw [nameAt_of hr]; simp [memOf]⟩
  rw [this]; decide
end Go.Proofs.Sm
namespace Go.Proofs.Sm
open Go.RowKit
structure LikeO (o o':OutV):Prop where
 what:o.what=o'.what
 res:o.res=o'.res
 fault:o.fault=o'.fault
theorem execOut_like (r:RuleV) (F:List FileV) (m m':Option MemoryV):LikeO (execOut r F m) (execOut r F m'):=by
 unfold execOut
 split
 ·exact ⟨rfl,rfl,rfl⟩
 split <;> exact ⟨rfl,rfl,rfl⟩
theorem filesB_same {l:List RuleV} {order:List Nat}:∀ {wanted:List ByteArray} {s t:BSt},(∀ n∈wanted,∃ k∈order,idxName l n=some k)→t.bad=s.bad→(∀ k∈order,∀ n:ByteArray,n.toList=(nameAt l k).toList→findM t.kept n=findM s.kept n)→filesB l wanted t=filesB l wanted s:=by
 intro wanted s t hw hb hk
 unfold filesB
 have key:∀ (ws:List ByteArray) (acc:List FileV),(∀ n∈ws,∃ k∈order,idxName l n=some k)→ws.foldl (takeB l t) acc=ws.foldl (takeB l s) acc:=by
  intro ws
  induction ws with
  | nil=>intro acc _; rfl
  | cons n ws ih =>
    intro acc hws
    obtain ⟨k,hko,he⟩:=hws n (List.mem_cons_self ..)
    have e:=hk k hko n (by
     obtain ⟨_,r,hr,hn⟩:=idxName_some he
     rw [nameAt_of hr]; exact hn.symm)
    have e2:takeB l t acc n=takeB l s acc n:=by
     unfold takeB
     rw [he]
     simp only [hb,e]
    rw [List.foldl_cons,List.foldl_cons,e2]
    exact ih _ fun n hn=>hws n (List.mem_cons_of_mem _ hn)
 exact key wanted [] hw
end Go.Proofs.Sm
namespace Go.Proofs.Sm
open Go.RowKit
def findF (h:List FileV) (p:ByteArray):Option FileV:=h.find? (eqp p)
theorem findF_some {h:List FileV} {p:ByteArray} {x:FileV} (e:findF h p=some x):x∈h∧x.path.toList=p.toList:=by
 unfold findF at e
 exact ⟨List.mem_of_find?_eq_some e,by simpa [eqp] using List.find?_some e⟩
theorem steps_pre {l:List RuleV} {mem:List MemoryV}:∀ (ks:List Nat) (s:BSt),∃ more,(stepsS l mem ks s).2.steps=s.steps ++ more
 | [],s=>⟨[],(List.append_nil _).symm⟩
 | k :: ks,s=>by
   cases hr:l[k]? with
   | none =>
     obtain ⟨m,hm⟩:=steps_pre (l:=l) (mem:=mem) ks s
     exact ⟨m,by rw [stepsS,hr]; exact hm⟩
   | some r =>
     by_cases hf:(outS (needsS l) mem r k s).fault=0
     ·obtain ⟨m,hm⟩:=steps_pre (l:=l) (mem:=mem) ks (takeS r k (outS (needsS l) mem r k s) s)
      refine ⟨[⟨r.name,(outS (needsS l) mem r k s).what,(outS (needsS l) mem r k s).early⟩] ++ m,?_⟩
      rw [steps_go hr hf,hm,←List.append_assoc]
      rfl
     ·exact ⟨[],by rw [steps_stop hr hf]; exact (List.append_nil _).symm⟩
theorem two_at {l:List RuleV} {mem mem':List MemoryV} {order:List Nat} {S T:BSt} {R:List Nat→BSt→BSt→Prop}
 (hstep:∀ (done:List Nat) (k:Nat) (rest:List Nat) (r:RuleV) (s t:BSt),order=done ++ k :: rest→l[k]?=some r→R done s t→(outS (needsS l) mem r k s).fault=0→(outS (needsS l) mem' r k t).fault=0 →
   (stepsS l mem rest (takeS r k (outS (needsS l) mem r k s) s)).2=S→(stepsS l mem' rest (takeS r k (outS (needsS l) mem' r k t) t)).2=T→R (done ++ [k]) (takeS r k (outS (needsS l) mem r k s) s) (takeS r k (outS (needsS l) mem' r k t) t)) :
 ∀ (ks done:List Nat) (s t:BSt),order=done ++ ks→(∀ k∈ks,k < l.length)→R done s t→s.steps.length=done.length→t.steps.length=done.length→(stepsS l mem ks s).1=0→(stepsS l mem' ks t).1=0→(stepsS l mem ks s).2=S→(stepsS l mem' ks t).2=T →
  R order S T∧S.steps.length=order.length∧T.steps.length=order.length∧∀ (i k:Nat) (r:RuleV),ks[i]?=some k→l[k]?=some r→∃ s' t',R (done ++ ks.take i) s' t'∧S.steps.take (done.length + i)=s'.steps∧T.steps.take (done.length + i)=t'.steps ∧
   S.steps[done.length + i]?=some ⟨r.name,(outS (needsS l) mem r k s').what,(outS (needsS l) mem r k s').early⟩∧T.steps[done.length + i]?=some ⟨r.name,(outS (needsS l) mem' r k t').what,(outS (needsS l) mem' r k t').early⟩ ∧
   (outS (needsS l) mem r k s').fault=0∧(outS (needsS l) mem' r k t').fault=0∧(stepsS l mem (ks.drop (i + 1)) (takeS r k (outS (needsS l) mem r k s') s')).2=S∧(stepsS l mem' (ks.drop (i + 1)) (takeS r k (outS (needsS l) mem' r k t') t')).2=T
 | [],done,s,t,ho,_,hR,hs,ht,_,_,e1,e2=>by
   rw [List.append_nil] at ho
   subst ho e1 e2
   exact ⟨hR,hs,ht,fun i k r hk=>by cases hk⟩
 | k :: ks,done,s,t,ho,hl,hR,hs,ht,h1,h2,e1,e2=>by
   obtain ⟨r,hr⟩:=at_lt (hl k (List.mem_cons_self ..))
   by_cases hf:(outS (needsS l) mem r k s).fault=0
   ·by_cases hf':(outS (needsS l) mem' r k t).fault=0
    ·rw [steps_go hr hf] at h1 e1
     rw [steps_go hr hf'] at h2 e2
     have hR':=hstep done k ks r s t ho hr hR hf hf' e1 e2
     have hs':(takeS r k (outS (needsS l) mem r k s) s).steps.length=(done ++ [k]).length:=by
      show (s.steps ++ [_]).length=_
      rw [List.length_append,List.length_append,hs]; rfl
     have ht':(takeS r k (outS (needsS l) mem' r k t) t).steps.length=(done ++ [k]).length:=by
      show (t.steps ++ [_]).length=_
      rw [List.length_append,List.length_append,ht]; rfl
     obtain ⟨g1,g2,g3,g4⟩:=two_at hstep ks (done ++ [k]) _ _ (by rw [ho]; simp) (fun j hj=>hl j (List.mem_cons_of_mem _ hj)) hR' hs' ht' h1 h2 e1 e2
     refine ⟨g1,g2,g3,fun i j q hj hq=>?_⟩
     cases i with
     | zero =>
       cases hj
       rw [hr] at hq; cases hq
       obtain ⟨m1,p1⟩:=steps_pre (l:=l) (mem:=mem) ks (takeS r k (outS (needsS l) mem r k s) s)
       obtain ⟨m2,p2⟩:=steps_pre (l:=l) (mem:=mem') ks (takeS r k (outS (needsS l) mem' r k t) t)
       rw [e1] at p1
       rw [e2] at p2
       change S.steps=(s.steps ++ [_]) ++ m1 at p1
       change T.steps=(t.steps ++ [_]) ++ m2 at p2
       refine ⟨s,t,by simpa using hR,?_,?_,?_,?_,hf,hf',e1,e2⟩
       ·rw [p1,List.append_assoc,Nat.add_zero,←hs,List.take_left']; rfl
       ·rw [p2,List.append_assoc,Nat.add_zero,←ht,List.take_left']; rfl
       ·rw [p1,List.append_assoc,Nat.add_zero,←hs,List.getElem?_append_right (Nat.le_refl _),Nat.sub_self]; rfl
       ·rw [p2,List.append_assoc,Nat.add_zero,←ht,List.getElem?_append_right (Nat.le_refl _),Nat.sub_self]; rfl
     | succ i =>
       have:=g4 i j q hj hq
       rw [List.length_append,List.length_singleton,Nat.add_assoc,Nat.add_comm 1 i,List.append_assoc] at this
       exact this
    ·rw [steps_stop hr hf'] at h2
     exact absurd h2 hf'
   ·rw [steps_stop hr hf] at h1
    exact absurd h1 hf
end Go.Proofs.Sm
namespace Go.Proofs.Sm
open Go.RowKit
theorem cut_order {g:Graph} {order done rest:List Nat} {k:Nat} (hn:order.Nodup) (hb:Behind g order) (e:order=done ++ k :: rest):k ∉ done∧k ∉ rest∧∀ j∈needAt g k,j∈done:=by
 subst e
 have h1:=List.nodup_append.1 hn
 refine ⟨fun h=>h1.2.2 k h k (List.mem_cons_self ..) rfl,(List.nodup_cons.1 h1.2.1).1,fun j hj=>?_⟩
 have h2:=hb done.length k (by rw [List.getElem?_append_right (Nat.le_refl _),Nat.sub_self]; rfl) j hj
 rwa [List.take_left' rfl] at h2
theorem plan_behind {l:List RuleV} {wanted:List ByteArray} {order:List Nat} (h:PlanIs l wanted order):Behind (needsS l) order:=by
 obtain ⟨ks,s,_,_,rfl⟩:=h
 exact orderS_behind _ _
theorem names_off {l:List RuleV} (hb:ByPath RuleV.name l) {k:Nat} {rest:List Nat} {r:RuleV} (hr:l[k]?=some r) (h:k ∉ rest):NamesOff l rest r.name:=fun _ hj _ hq=>by_differ hb hq hr fun e=>h (e ▸ hj)
end Go.Proofs.Sm
namespace Go.Proofs.Sm
open Go.RowKit
def FaithfulL (l:List (List UInt8)):Prop:=∀ a∈l,∀ b∈l,digestS a=digestS b→a=b
def contentsS (files:List FileV) (m:List MemoryV):List (List UInt8):=files.map FileV.bytes ++ m.flatMap fun y=>y.result.files.map FileV.bytes
def InC (C:List (List UInt8)) (F:List FileV):Prop:=∀ x∈F,x.bytes∈C
theorem inC_inputs {C:List (List UInt8)} {h:List FileV} (hC:InC C h) (r:RuleV):InC C (inputsS h r):=fun x hx=>by
 unfold inputsS at hx
 obtain ⟨p,_,e⟩:=List.mem_filterMap.1 hx
 exact hC x (List.mem_of_find?_eq_some e)
theorem putF_mem {h:List FileV} {x y:FileV} (hy:y∈putFileS h x):y∈h∨y=x:=put_mem_by (key:=FileV.path) hy
theorem inC_fold {C:List (List UInt8)}:∀ {fs h:List FileV},InC C h→InC C fs→InC C (fs.foldl putFileS h)
 | [],_,h1,_=>h1
 | x :: fs,h,h1,h2=>by
   rw [List.foldl_cons]
   refine inC_fold (fun y hy=>?_) fun y hy=>h2 y (List.mem_cons_of_mem _ hy)
   rcases putF_mem hy with hy | rfl
   ·exact h1 y hy
   ·exact h2 y (List.mem_cons_self ..)
theorem contents_files {files:List FileV} {m:List MemoryV}:InC (contentsS files m) files:=fun x hx=>List.mem_append.2 (.inl (List.mem_map.2 ⟨x,hx,rfl⟩))
theorem contents_mem {files:List FileV} {m:List MemoryV} {y:MemoryV} (hy:y∈m):InC (contentsS files m) y.result.files:=fun x hx=>List.mem_append.2 (.inr (List.mem_flatMap.2 ⟨y,hy,List.mem_map.2 ⟨x,hx,rfl⟩⟩))
theorem agree_on {C:List (List UInt8)} (hC:FaithfulL C) {F G:List FileV} (hF:InC C F) (hG:InC C G) {looks:List Look} (h:∀ y∈looks,lookAtS F y.path=lookAtS G y.path):AgreeOn F G looks:=by
 intro y hy
 have e:=h y hy
 cases h1:F.find? (eqp y.path) with
 | none =>
   cases h2:G.find? (eqp y.path) with
   | none=>rfl
   | some x =>
     rw [lookAt_none h1,lookAt_some h2] at e
     have e2:(⟨#[]⟩:ByteArray)=digestS x.bytes:=congrArg Look.digest e
     have:=digest_some x.bytes
     rw [←e2] at this
     rw [ByteArray.toList_eq] at this
     exact absurd this (by decide)
 | some x =>
   cases h2:G.find? (eqp y.path) with
   | none =>
     rw [lookAt_some h1,lookAt_none h2] at e
     have e2:=congrArg Look.digest e
     have:=digest_some x.bytes
     have e2:digestS x.bytes=⟨#[]⟩:=e2
     rw [e2] at this
     rw [ByteArray.toList_eq] at this
     exact absurd this (by decide)
   | some z =>
     rw [lookAt_some h1,lookAt_some h2] at e
     have e2:digestS x.bytes=digestS z.bytes:=congrArg Look.digest e
     have e3:x.run=z.run:=congrArg Look.run e
     have e4:=hC _ (hF x (List.mem_of_find?_eq_some h1)) _ (hG z (List.mem_of_find?_eq_some h2)) e2
     have p1:=(findF_some (h:=F) h1).2
     have p2:=(findF_some (h:=G) h2).2
     have e5:x.path=z.path:=list_eq (p1.trans p2.symm)
     cases x
     cases z
     simp only at e3 e4 e5
     rw [e3,e4,e5]
def KeptOver (l:List RuleV) (C:List (List UInt8)) (kept:List MemoryV):Prop :=
 ∀ y∈kept,∃ (k:Nat) (r:RuleV) (F:List FileV),l[k]?=some r∧bothErr r.action F=0∧(execS r.action F).code=0∧y=memOf r (execS r.action F)∧InC C F
theorem taken_kept {l:List RuleV} {mem:List MemoryV} {r:RuleV} {k:Nat} {rest:List Nat} {s S:BSt} {o:OutV} {x:ResultV} (hoff:NamesOff l rest r.name) (hx:o.res=some x) (he:(stepsS l mem rest (takeS r k o s)).2=S):findM S.kept r.name=some (memOf r x):=by
 rw [←he,kept_stay hoff]
 show findM (o.res.elim s.kept fun x=>putM s.kept (memOf r x)) r.name=_
 rw [hx]
 exact findM_same _ _ _
theorem kept_over {l:List RuleV} {files:List FileV} {wanted:List ByteArray} {order:List Nat} (hp:PlanIs l wanted order) (h:buildErr l files wanted [] order=0):KeptOver l (contentsS files (runB l files [] order).2.kept) (runB l files [] order).2.kept:=by
 obtain ⟨h1,h2,h3⟩:=buildErr_parts h
 have hc:=planErr_rules (buildErr0_parts h1).1
 obtain ⟨_,hb⟩:=rules_parts_by hc
 obtain ⟨hnd,hlt⟩:=plan_parts hp
 have hbe:=plan_behind hp
 have key:=two_at (l:=l) (mem:=[]) (mem':=[]) (order:=order) (S:=(runB l files [] order).2) (T:=(runB l files [] order).2)
  (R:=fun _ s _=>InC (contentsS files (runB l files [] order).2.kept) s.have_∧KeptOver l (contentsS files (runB l files [] order).2.kept) s.kept)
  (fun done k rest r s t ho hr hR hf _ e1 _=>by
    obtain ⟨c1,c2,c3⟩:=cut_order hnd hbe ho
    have hout:=outS_none (g:=needsS l) (mem:=[]) (r:=r) (k:=k) (s:=s) rfl
    by_cases hd:(needAt (needsS l) k).any (isOf s.bad)=true
    ·rw [if_pos hd] at hout
     rw [hout]; exact hR
    rw [if_neg hd] at hout
    rcases execOut_cases r (inputsS s.have_ r) none with ⟨hb',he⟩ | ⟨hb',hcd,he⟩ | ⟨hb',hcd,he⟩
    ·rw [hout,he]; exact hR
    ·rw [hout,he]; exact hR
    ·have hres:(outS (needsS l) [] r k s).res=some (execS r.action (inputsS s.have_ r)):=by rw [hout,he]
     have hk:=taken_kept (names_off hb hr c2) hres e1
     have hin:=contents_mem (files:=files) (findM_some hk).1
     rw [hout,he]
     refine ⟨inC_fold hR.1 hin,fun y hy=>?_⟩
     rcases put_mem_by (key:=MemoryV.name) hy with hy | rfl
     ·exact hR.2 y hy
     ·exact ⟨k,r,_,hr,hb',hcd,rfl,inC_inputs hR.1 r⟩)
  order [] ⟨files,List.replicate l.length false,[],[]⟩ ⟨files,List.replicate l.length false,[],[]⟩ rfl hlt ⟨contents_files,fun y hy=>absurd hy List.not_mem_nil⟩ rfl rfl h2 h2 rfl rfl
 exact key.1.2
theorem again_fresh {l:List RuleV} {C:List (List UInt8)} (hC:FaithfulL C) {M:List MemoryV} (hb:ByPath RuleV.name l) (hM:KeptOver l C M) (hno:∀ r∈l,r.action.commands.any isList=false) {k:Nat} {r:RuleV} {s t:BSt} (hr:l[k]?=some r) (hf:(outS (needsS l) [] r k s).fault=0)
 (h1:t.have_=s.have_) (h2:t.bad=s.bad) (hin:InC C s.have_):(outS (needsS l) M r k t).res=(outS (needsS l) [] r k s).res∧(if (outS (needsS l) M r k t).what=2 then 1 else (outS (needsS l) M r k t).what)=(outS (needsS l) [] r k s).what:=by
 have hout:=outS_none (g:=needsS l) (mem:=[]) (r:=r) (k:=k) (s:=s) rfl
 by_cases hd:(needAt (needsS l) k).any (isOf s.bad)=true
 ·rw [if_pos hd] at hout
  have e:outS (needsS l) M r k t=⟨4,false,none,0⟩:=by unfold outS; rw [h2,if_pos hd]
  rw [e,hout]; exact ⟨rfl,rfl⟩
 rw [if_neg hd] at hout
 have hex:∀ m,(execOut r (inputsS s.have_ r) m).res=(outS (needsS l) [] r k s).res∧(if (execOut r (inputsS s.have_ r) m).what=2 then 1 else (execOut r (inputsS s.have_ r) m).what)=(outS (needsS l) [] r k s).what:=fun m=>by
  have e:=execOut_like r (inputsS s.have_ r) m none
  rw [hout,e.res,e.what]
  refine ⟨rfl,?_⟩
  rcases execOut_cases r (inputsS s.have_ r) none with ⟨_,he⟩ | ⟨_,_,he⟩ | ⟨_,_,he⟩ <;> rw [he] <;> rfl
 cases hm:findM M r.name with
 | none =>
   rw [outS_none hm,h2,if_neg hd,h1]
   exact hex none
 | some m =>
   rw [outS_some hm,h2,if_neg hd,h1]
   by_cases hst:memStands r m (inputsS s.have_ r)=true
   ·rw [if_pos hst]
    obtain ⟨hmem,hname⟩:=findM_some hm
    obtain ⟨k',r',F,hr',hb0,hcd,he,hF⟩:=hM m hmem
    have hkk:k'=k:=by
     by_cases e:k'=k
     ·exact e
     ·refine absurd ?_ (by_differ hb hr' hr e)
      rw [←hname,he]; rfl
    subst hkk
    rw [hr] at hr'
    cases hr'
    unfold memStands at hst
    rw [Bool.and_eq_true,Bool.and_eq_true] at hst
    obtain ⟨_,g1,g2⟩:=hst
    have g1:looksOfErr m.looks (inputsS s.have_ r)=0:=by simpa using g1
    have g3:=sameLooksS_iff.1 g2
    rw [looksOfS,if_pos g1] at g3
    have hlooks:m.looks=(execS r.action F).looks:=by rw [he]; rfl
    rw [hlooks] at g3
    have hag:AgreeOn F (inputsS s.have_ r) (execS r.action F).looks:=by
     refine agree_on hC hF (inC_inputs hin r) fun y hy=>?_
     have a1:=(exec_right hb0).1.stand
     have a2:∀ z∈(execS r.action F).looks,lookAtS F z.path=z:=fun z hz=>by
      have:=List.map_id'' (f:=id) (fun _=>rfl) (execS r.action F).looks
      exact List.map_inj_left.1 (a1.trans (List.map_id' _).symm) z hz
     have a3:∀ z∈(execS r.action F).looks,lookAtS (inputsS s.have_ r) z.path=z:=fun z hz=>by
      unfold looksAtS at g3
      exact List.map_inj_left.1 (g3.symm.trans (List.map_id' _).symm) z hz
     rw [a2 y hy,a3 y hy]
    have hex2:=looks_decide (hno r (List.mem_of_getElem? hr)) hag
    have hres:m.result=execS r.action (inputsS s.have_ r):=by rw [hex2,he]; rfl
    rcases execOut_cases r (inputsS s.have_ r) none with ⟨hb',e⟩ | ⟨hb',hcd',e⟩ | ⟨hb',hcd',e⟩
    ·rw [hout,e] at hf; exact absurd hf hb'
    ·rw [hex2] at hcd'; exact absurd hcd hcd'
    ·rw [hout,e,hres]; exact ⟨rfl,rfl⟩
   ·rw [if_neg hst]
    exact hex (some m)
theorem again_is_fresh {l:List RuleV} {before files:List FileV} {wanted other:List ByteArray} {order o1:List Nat} (hp1:PlanIs l other o1) (hp:PlanIs l wanted order) (hwas:buildErr l before other [] o1=0)
 (hnow:buildErr l files wanted (runB l before [] o1).2.kept order=0) (hfresh:buildErr l files wanted [] order=0) (hno:∀ r∈l,r.action.commands.any isList=false)
 (hC:FaithfulL (contentsS before (runB l before [] o1).2.kept ++ contentsS files ((runB l files (runB l before [] o1).2.kept order).2.kept ++ (runB l files [] order).2.kept))) :
 filesB l wanted (runB l files (runB l before [] o1).2.kept order).2=filesB l wanted (runB l files [] order).2∧(runB l files (runB l before [] o1).2.kept order).2.steps.length=(runB l files [] order).2.steps.length ∧
 ∀ (i:Nat) (x y:StepV),(runB l files (runB l before [] o1).2.kept order).2.steps[i]?=some x→(runB l files [] order).2.steps[i]?=some y→x.name=y.name∧(if x.what=2 then 1 else x.what)=y.what:=by
 have hkept:=kept_over hp1 hwas
 obtain ⟨w1,_,_⟩:=buildErr_parts hwas
 have hc:=planErr_rules (buildErr0_parts w1).1
 obtain ⟨hl,hb⟩:=rules_parts_by hc
 obtain ⟨_,m2,_⟩:=fresh_memory hwas
 obtain ⟨_,n2,_⟩:=buildErr_parts hnow
 obtain ⟨_,f2,_⟩:=buildErr_parts hfresh
 generalize hMd:(runB l before [] o1).2.kept=M at *
 obtain ⟨hnd,hlt⟩:=plan_parts hp
 have hbe:=plan_behind hp
 have hrun:runB l files M order=stepsS l M order (startB l files M order):=by rw [runB,m2]
 have hM:KeptOver l (contentsS before M ++ contentsS files ((runB l files M order).2.kept ++ (runB l files [] order).2.kept)) M:=fun y hy=>by
  obtain ⟨k,r,F,a1,a2,a3,a4,a5⟩:=hkept y hy
  exact ⟨k,r,F,a1,a2,a3,a4,fun x hx=>List.mem_append.2 (.inl (a5 x hx))⟩
 have hfilesC:InC (contentsS before M ++ contentsS files ((runB l files M order).2.kept ++ (runB l files [] order).2.kept)) files:=fun x hx=>List.mem_append.2 (.inr (contents_files x hx))
 have key:=two_at (l:=l) (mem:=[]) (mem':=M) (order:=order) (S:=(runB l files [] order).2) (T:=(runB l files M order).2)
  (R:=fun done s t=>t.have_=s.have_∧t.bad=s.bad∧InC (contentsS before M ++ contentsS files ((runB l files M order).2.kept ++ (runB l files [] order).2.kept)) s.have_∧∀ (n:ByteArray),(∃ k∈order,n.toList=(nameAt l k).toList)→findM t.kept n=findM s.kept n)
  (fun done k rest r s t ho hr hR hf hf' e1 e2=>by
    obtain ⟨c1,c2,c3⟩:=cut_order hnd hbe ho
    obtain ⟨r1,r2,r3,r4⟩:=hR
    obtain ⟨hres,_⟩:=again_fresh hC hb hM hno hr hf r1 r2 r3
    refine ⟨?_,?_,?_,fun n hn=>?_⟩
    ·show (outS (needsS l) M r k t).res.elim t.have_ _=(outS (needsS l) [] r k s).res.elim s.have_ _
     rw [hres,r1]
    ·show (if (outS (needsS l) M r k t).res.isNone then t.bad.set k true else t.bad)=if (outS (needsS l) [] r k s).res.isNone then s.bad.set k true else s.bad
     rw [hres,r2]
    ·show InC _ ((outS (needsS l) [] r k s).res.elim s.have_ fun x=>x.files.foldl putFileS s.have_)
     cases hx:(outS (needsS l) [] r k s).res with
     | none=>exact r3
     | some x =>
       have hk:=taken_kept (names_off hb hr c2) hx e1
       have hin:=contents_mem (files:=files) (m:=(runB l files M order).2.kept ++ (runB l files [] order).2.kept) (List.mem_append.2 (.inr (findM_some hk).1))
       exact inC_fold r3 fun z hz=>List.mem_append.2 (.inr (hin z hz))
    ·show findM ((outS (needsS l) M r k t).res.elim t.kept fun x=>putM t.kept (memOf r x)) n=findM ((outS (needsS l) [] r k s).res.elim s.kept fun x=>putM s.kept (memOf r x)) n
     rw [hres]
     cases (outS (needsS l) [] r k s).res with
     | none=>exact r4 n hn
     | some x =>
       show findM (putM t.kept (memOf r x)) n=findM (putM s.kept (memOf r x)) n
       rw [findM_put,findM_put,r4 n hn])
  order [] ⟨files,List.replicate l.length false,[],[]⟩ (startB l files M order) rfl hlt ⟨rfl,rfl,hfilesC,fun n hn=>by
   obtain ⟨k,hk,hn⟩:=hn
   show findM (M.filter fun y=>!order.any fun k=>(nameAt l k).toList == y.name.toList) n=none
   cases hf:findM (M.filter fun y=>!order.any fun k=>(nameAt l k).toList == y.name.toList) n with
   | none=>rfl
   | some y =>
     obtain ⟨h1,h2⟩:=findM_some hf
     have h3:=(List.mem_filter.1 h1).2
     have h4:(order.any fun k=>(nameAt l k).toList == y.name.toList)=true:=List.any_eq_true.2 ⟨k,hk,by rw [h2,hn]; simp⟩
     rw [h4] at h3; cases h3⟩ rfl rfl
  f2 (by rw [←hrun]; exact n2) rfl (by rw [←hrun])
 obtain ⟨⟨r1,r2,r3,r4⟩,l1,l2,hat⟩:=key
 refine ⟨filesB_same (order:=order) (plan_wanted hc hp) r2 fun k hk n hn=>r4 n ⟨k,hk,hn⟩,l2.trans l1.symm,fun i x y hx hy=>?_⟩
 have hil:i < order.length:=by rw [←l2]; exact (List.getElem?_eq_some_iff.1 hx).1
 obtain ⟨k,hk⟩:=at_lt hil
 obtain ⟨r,hr⟩:=at_lt (hlt k (List.mem_of_getElem? hk))
 obtain ⟨s',t',hR,_,_,x1,x2,g1,_⟩:=hat i k r hk hr
 rw [List.length_nil,Nat.zero_add] at x1 x2
 rw [hx] at x2
 rw [hy] at x1
 cases x1
 cases x2
 obtain ⟨_,hw⟩:=again_fresh hC hb hM hno hr g1 hR.1 hR.2.1 hR.2.2.1
 exact ⟨rfl,hw⟩
end Go.Proofs.Sm
namespace Go.Proofs.Sm
open Go.RowKit
section
variable {l:List RuleV} {F before files:List FileV} {ws other:List ByteArray} {ms:List MemoryV} {f g:Int} {a b x y:BuiltV}
theorem BuildIs.empty (h:BuildIs l F ws ms f b) (h0:f≠0):b=⟨[],[],[]⟩:=h.1 h0
theorem BuildIs.good (h:BuildIs l F ws ms 0 b):∃ order,PlanIs l ws order∧buildErr l F ws ms order=0∧b=builtOf l ws (runB l F ms order).2:=by
 have h0:buildErr0 l F ws ms=0:=Decidable.byContradiction fun e=>e (h.2.1 e).symm
 obtain ⟨order,h1,h2,h3⟩:=h.2.2 h0
 exact ⟨order,h1,h2.symm,h3 rfl⟩
theorem BuildIs.filesOk (h:BuildIs l F ws ms 0 b):checkFilesS F=0:=by
 obtain ⟨o,_,h1,_⟩:=h.good
 exact (buildErr0_parts (buildErr_parts h1).1).2.1
theorem built_fresh (h1:BuildIs l before other [] 0 a) (h2:BuildIs l files ws a.memory 0 x) (h3:BuildIs l files ws [] 0 y) (hno:∀ r∈l,r.action.commands.any isList=false) (hC:FaithfulL (contentsS before a.memory ++ contentsS files (x.memory ++ y.memory))) :
 x.files=y.files∧x.steps.length=y.steps.length∧∀ (i:Nat) (s t:StepV),x.steps[i]?=some s→y.steps[i]?=some t→s.name=t.name∧(if s.what=2 then 1 else s.what)=t.what:=by
 obtain ⟨o1,hp1,hb1,rfl⟩:=h1.good
 obtain ⟨order,hp,hb2,rfl⟩:=h2.good
 obtain ⟨e3,e4⟩:=h3.atPlan hp
 rw [e4 rfl] at hC ⊢
 exact again_is_fresh hp1 hp hb1 hb2 e3.symm hno hC
end
end Go.Proofs.Sm
