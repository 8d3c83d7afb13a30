/- Words and walks that the claims share, part 13. -/
import Derived.Test.YtaabdbephemboaaGreatDoorBx11
import Derived.Test.YtaabdbephemboaaGreatDoorBx12
namespace Go.Proofs.Sm
open Go.RowKit
theorem word_text {s:ByteArray} (h:isWordS s=true):s.data.toList.all textB=true:=by
 unfold isWordS at h
 rw [Bool.and_eq_true,List.all_eq_true] at h
 rw [List.all_eq_true]
 intro c hc
 have h1:=h.1 c hc
 unfold bytesInB at h1
 rw [Bool.and_eq_true,decide_eq_true_eq,decide_eq_true_eq] at h1
 unfold textB textI
 rw [Bool.or_eq_true,Bool.and_eq_true,decide_eq_true_eq,decide_eq_true_eq]
 exact .inr ⟨by omega,by omega⟩
theorem join_text {ws:List ByteArray} (h:∀ w∈ws,isWordS w=true):(joinS ws).all textB=true:=by
 unfold joinS
 cases ws with
 | nil=>rfl
 | cons w r =>
   rw [List.map_cons,Lib.join_cons,List.all_append,Bool.and_eq_true]
   refine ⟨word_text (h w (by simp)),?_⟩
   unfold Lib.joinTail
   rw [List.all_eq_true]
   intro c hc
   obtain ⟨l,hl,hcl⟩:=List.mem_flatten.1 hc
   obtain ⟨x,hx,rfl⟩:=List.mem_map.1 hl
   obtain ⟨y,hy,rfl⟩:=List.mem_map.1 hx
   rcases List.mem_append.1 hcl with h1 | h1
   ·obtain rfl:c=32:=by simpa using h1
    decide
   ·exact List.all_eq_true.1 (word_text (h y (by simp [hy]))) c h1
theorem keepsW_tell (a:ActionV) {ws:List ByteArray} (h:∀ w∈ws,isWordS w=true):KeepsW a (tellE ws):=fun F s hs=>by
 unfold tellE
 split
 ·exact hs
 rename_i hl
 refine ⟨hs.sorted,hs.own,hs.total,hs.small,?_,?_,by show (s.told ++ lineW ws).length≤100000; omega⟩
 ·show (s.told ++ lineW ws).all textB=true
  unfold lineW
  rw [List.all_append,List.all_append,hs.told.1,join_text h]
  decide
 ·show endsS (s.told ++ lineW ws)=true
  unfold endsS lineW
  rw [←List.append_assoc]
  simp
theorem cmd_isWords {c:List ByteArray} (h:checkCommandS c=0):∀ w∈c,isWordS w=true:=by
 unfold checkCommandS at h
 split at h
 ·cases h
 split at h
 ·cases h
 split at h
 ·cases h
 ·rename_i hw
  intro w hwm
  exact List.all_eq_true.1 (by simpa using hw) w hwm
theorem keepsW_do (a:ActionV) (ho:∀ o∈a.outputs,IsP o) {c:List ByteArray} (h:checkCommandS c=0):KeepsW a (doE a c):=by
 have hr:∀ {α:Type} (x:α),KeepsW a (Ex.ret x):=fun x=>(quiet_ret x).keepsW a
 unfold doE
 dsimp only
 split
 ·exact keepsW_tell a fun w hw=>cmd_isWords h w (List.mem_of_mem_drop hw)
 split
 ·exact ((quiet_read _).keepsW a).bind fun x=>hr _
 split
 ·unfold sameE
  refine ((quiet_read _).keepsW a).bind fun x=>?_
  split
  ·refine ((quiet_read _).keepsW a).bind fun y=>?_
   split
   ·split <;> exact hr _
   ·exact hr _
  ·exact hr _
 split
 ·exact hr _
 ·refine ((quiet_made _ _).keepsW a).bind fun x=>?_
  split
  ·exact keepsW_write a (fun o hom hoe=>by
    have e:o=wordAt c 1:=bytes_eq (by rw [←Lib.toList_data,←Lib.toList_data]; exact hoe)
    rw [←e]; exact ho o hom) _ _
  ·exact hr _
theorem keepsW_run (a:ActionV) (ho:∀ o∈a.outputs,IsP o):∀ (l:List (List ByteArray)) (i:Nat),(∀ c∈l,checkCommandS c=0)→KeepsW a (runE a l i)
 | [],_,_=>fun _ _ hs=>hs
 | c :: rest,i,h=>by
   unfold runE
   refine (keepsW_do a ho (h c (by simp))).bind fun x=>?_
   split
   ·exact keepsW_run a ho rest (i + 1) fun c' hc'=>h c' (by simp [hc'])
   ·exact (quiet_ret _).keepsW a
def Gives {α:Type} (Q:α→Prop) (m:Ex α):Prop:=∀ F s,Q (m F s).1
section
variable {α β:Type}
theorem gives_ret {Q:α→Prop} {a:α} (h:Q a):Gives Q (Ex.ret a):=fun _ _=>h
theorem Gives.bind {Q:α→Prop} {R:β→Prop} {m:Ex α} {f:α→Ex β} (h:Gives Q m) (hf:∀ a,Q a→Gives R (f a)):Gives R (m.bind f):=fun F s=>hf _ (h F s) F _
theorem gives_any (m:Ex α):Gives (fun _=>True) m:=fun _ _=>trivial
end
def Low (c:Int):Prop:=0≤c∧c≤5
theorem gives_read (p:ByteArray):Gives (fun x=>Low x.2) (readE p):=(gives_any _).bind fun x _=>by cases x <;> exact gives_ret ⟨by simp,by simp⟩
theorem gives_each {f:ByteArray→List UInt8→Nat→Ex (List UInt8 × Nat × Int)} (hf:∀ p o r,Gives (fun x=>Low x.2.2) (f p o r)):∀ l o r,Gives (fun x=>Low x.2.2) (eachE f l o r)
 | [],_,_=>gives_ret ⟨by simp,by simp⟩
 | s :: rest,o,r=>by
   unfold eachE
   split
   ·refine (hf _ o r).bind fun x hx=>?_
    split
    ·exact gives_each hf rest _ _
    ·exact gives_ret hx
   ·split
    ·exact gives_ret ⟨by simp,by simp⟩
    ·exact gives_each hf rest _ _
theorem gives_file:∀ fuel inn p o r,Gives (fun x=>Low x.2.2) (fileE fuel inn p o r)
 | 0,_,_,_,_=>gives_ret ⟨by simp,by simp⟩
 | fuel + 1,inn,p,o,r=>by
   unfold fileE
   split
   ·exact gives_ret ⟨by simp,by simp⟩
   ·refine (gives_read p).bind fun x hx=>?_
    split
    ·split
     ·exact gives_ret ⟨by simp,by simp⟩
     ·exact gives_each (fun p o r=>gives_file fuel _ p o r) _ _ _
    ·exact gives_ret hx
theorem gives_joined:∀ l o,Gives (fun x=>Low x.2) (joinedE l o)
 | [],_=>gives_ret ⟨by simp,by simp⟩
 | p :: rest,o=>by
   unfold joinedE
   refine (gives_read p).bind fun x hx=>?_
   split
   ·exact gives_joined rest _
   ·exact gives_ret hx
theorem gives_pick:∀ l,Gives (fun x=>Low x.2) (pickE l)
 | []=>gives_ret ⟨by simp,by simp⟩
 | p :: rest=>by
   unfold pickE
   refine (gives_any _).bind fun x _=>?_
   cases x
   ·exact gives_pick rest
   ·exact gives_ret ⟨by simp,by simp⟩
theorem gives_made (vars:List VarV) (c:List ByteArray):Gives (fun x=>Low x.2) (madeE vars c):=by
 unfold madeE
 dsimp only
 split
 ·exact gives_joined _ _
 split
 ·exact (gives_file _ _ _ _ _).bind fun x hx=>gives_ret hx
 split
 ·exact gives_pick _
 split
 ·exact (gives_any _).bind fun x _=>gives_ret ⟨by simp,by simp⟩
 split
 ·refine gives_ret ?_
  unfold valueS
  split <;> exact ⟨by simp,by simp⟩
 ·refine (gives_read _).bind fun x hx=>?_
  split
  ·exact gives_ret ⟨by simp,by simp⟩
  ·exact gives_ret hx
theorem num_small {s:ByteArray} (h:isNumberS s 6=true):numS s≤999999:=by
 obtain ⟨_,h1,h2,_⟩:=number_some h
 have h5:10 ^ s.size≤10 ^ 6:=Nat.pow_le_pow_right (by decide) h2
 omega
def CodeOk (c:Int):Prop:=0≤c∧c≤999999
theorem Low.ok {c:Int} (h:Low c):CodeOk c:=⟨h.1,by have:=h.2; omega⟩
theorem gives_do (a:ActionV) {c:List ByteArray} (h:checkCommandS c=0):Gives CodeOk (doE a c):=by
 unfold doE
 dsimp only
 split
 ·exact fun F s=>by unfold tellE; split <;> exact ⟨by simp,by simp⟩
 split
 ·exact (gives_read _).bind fun x hx=>gives_ret hx.ok
 split
 ·unfold sameE
  refine (gives_read _).bind fun x hx=>?_
  split
  ·refine (gives_read _).bind fun y hy=>?_
   split
   ·split <;> exact gives_ret ⟨by simp,by simp⟩
   ·exact gives_ret hy.ok
  ·exact gives_ret hx.ok
 split
 ·rename_i e
  refine gives_ret ?_
  obtain ⟨hl,kinds,more,hf,h1,_,h3⟩:=command_form h
  rw [e] at hf
  cases hf
  have h4:=h3 0 _ (wordAt_mem (by simp at h1; omega))
  have h5:isNumberS (wordAt c 1) 6=true:=h4
  have:=num_small h5
  exact ⟨by omega,by omega⟩
 ·refine (gives_made a.vars c).bind fun x hx=>?_
  split
  ·exact fun F s=>by unfold writeE; split <;> (try split) <;> exact ⟨by simp,by simp⟩
  ·exact gives_ret hx.ok
theorem gives_run (a:ActionV):∀ (l:List (List ByteArray)) (i:Nat),(∀ c∈l,checkCommandS c=0)→Gives (fun x=>CodeOk x.1∧x.2≤i + l.length∧(x.1=0→x.2=0)∧(1 < x.1→0 < x.2)) (runE a l i)
 | [],i,_=>fun F s=>by
   unfold runE
   split
   ·exact ⟨⟨by simp,by simp⟩,Nat.zero_le _,fun _=>rfl,fun h=>absurd h (by simp)⟩
   ·exact ⟨⟨by simp,by simp⟩,Nat.zero_le _,fun _=>rfl,fun h=>absurd h (by simp)⟩
 | c :: rest,i,h=>by
   unfold runE
   refine (gives_do a (h c (by simp))).bind fun x hx=>?_
   split
   ·intro F s
    obtain ⟨h1,h2,h3,h4⟩:=gives_run a rest (i + 1) (fun c' hc'=>h c' (by simp [hc'])) F s
    exact ⟨h1,by rw [List.length_cons]; omega,h3,h4⟩
   ·rename_i h0
    exact gives_ret ⟨hx,by rw [List.length_cons]; omega,fun e=>absurd e h0,fun _=>Nat.succ_pos _⟩
theorem run_all (a:ActionV) (F:List FileV):∀ (l:List (List ByteArray)) (i:Nat) (s:ExSt),(runE a l i F s).1.1=0→a.outputs.length≤(runE a l i F s).2.written.length
 | [],i,s,h=>by
   unfold runE at h ⊢
   split at h
   ·exact absurd h (by simp)
   ·rename_i h1
    show a.outputs.length≤s.written.length
    omega
 | c :: rest,i,s,h=>by
   unfold runE Ex.bind at h ⊢
   dsimp only at h ⊢
   by_cases h0:(doE a c F s).1=0
   ·rw [if_pos h0] at h ⊢
    exact run_all a F rest (i + 1) _ h
   ·rw [if_neg h0] at h
    exact absurd h h0
end Go.Proofs.Sm
namespace Go.Proofs.Sm
open Go.RowKit
theorem outs_parts {l:List ByteArray} (h:checkOutputsS l=0):l.length≤100∧(∀ o∈l,IsP o)∧l.Pairwise (fun x y=>ltS x y=true)∧∀ p∈l,∀ q∈l,liesS p q=false:=by
 unfold checkOutputsS at h
 split at h
 ·cases h
 split at h
 ·cases h
 rename_i h1
 split at h
 ·rename_i h2; exact absurd h h2
 rename_i h2
 have h2:listErr outErr id none l=0:=by simpa using h2
 split at h
 ·cases h
 rename_i h3
 refine ⟨by omega,fun o ho=>?_,?_,fun p hp q hq=>?_⟩
 ·obtain ⟨k,hk⟩:=List.getElem?_of_mem ho
  have h4:=listErr_at h2 k o hk
  unfold outErr at h4
  split at h4
  ·cases h4
  ·rename_i h5
   show isPathS o=true
   simpa using h5
 ·rw [List.pairwise_iff_getElem]
  intro i j hi hj hij
  exact outs_before h2 i j _ _ hij (List.getElem?_eq_getElem hi) (List.getElem?_eq_getElem hj)
 ·have h4:(l.any fun p=>l.any fun q=>liesS p q)=false:=by simpa using h3
  have h5:=List.any_eq_false.1 h4 p hp
  have h6:(l.any fun q=>liesS p q)=false:=by simpa using h5
  have h7:=List.any_eq_false.1 h6 q hq
  simpa using h7
theorem sorted_same {A B:List ByteArray} (hA:A.Pairwise fun x y=>ltS x y=true) (hB:B.Pairwise fun x y=>ltS x y=true) (hs:∀ x∈A,x∈B) (hn:B.length≤A.length):A=B:=by
 have hne:∀ {l:List ByteArray},(l.Pairwise fun x y=>ltS x y=true)→l.Pairwise fun x y=>¬ x.toList=y.toList:=fun h=>h.imp fun {x y} hxy e=>by
  rw [ltS_eq_l e,ltS_irrefl] at hxy; cases hxy
 have hnd:∀ {l:List ByteArray},(l.Pairwise fun x y=>ltS x y=true)→l.Nodup:=fun h=>h.imp fun {x y} hxy e=>by
  rw [e,ltS_irrefl] at hxy; cases hxy
 have hback:∀ x∈B,x∈A:=fun b hb=>Classical.byContradiction fun hno=>by
  obtain ⟨B1,B2,rfl⟩:=List.append_of_mem hb
  have h1:=many_paths A (B1 ++ B2) (hne hA) fun x hx=>by
   refine ⟨x,?_,rfl⟩
   rcases List.mem_append.1 (hs x hx) with h | h
   ·exact List.mem_append.2 (.inl h)
   ·rcases List.mem_cons.1 h with h | h
    ·exact absurd (h ▸ hx) hno
    ·exact List.mem_append.2 (.inr h)
  simp only [List.length_append,List.length_cons] at h1 hn
  omega
 refine List.Perm.eq_of_pairwise (le:=fun x y=>ltS x y=true) (fun x y _ _ h1 h2=>?_) hA hB ((List.perm_ext_iff_of_nodup (hnd hA) (hnd hB)).2 fun x=>⟨hs x,hback x⟩)
 have:=ltS_trans h1 h2
 rw [ltS_irrefl] at this; cases this
theorem clash_lies {l:List FileV} {p:ByteArray}:∀ {n i:Nat},clashFrom l p n i=true→∃ y∈l,liesS p y.path=true
 | 0,_,h=>by cases h
 | n + 1,i,h=>by
   rw [clashFrom,Bool.or_eq_true,Bool.and_eq_true,decide_eq_true_eq] at h
   rcases h with ⟨h1,h2⟩ | h
   ·unfold hasPath at h2
    obtain ⟨y,hy,he⟩:=List.any_eq_true.1 h2
    have he:y.path.data.toList=p.data.toList.take i:=by simpa using he
    refine ⟨y,hy,?_⟩
    unfold liesS Lib.hasPrefix
    rw [List.isPrefixOf_iff_prefix,he]
    have h3:p.data.toList.take i ++ [47]=p.data.toList.take (i + 1):=by rw [List.take_add_one,h1]; rfl
    rw [h3]
    exact List.take_prefix _ _
   ·exact clash_lies h
theorem filesErr_ok:∀ {l:List FileV} {prev:Option ByteArray},ByPath FileV.path l→(∀ x∈l,IsP x.path∧x.bytes.length≤100000)→(∀ q,prev=some q→∀ x∈l,ltS q x.path=true)→filesErr prev l=0
 | [],_,_,_,_=>rfl
 | y :: l,prev,hs,he,hp=>by
   unfold ByPath at hs
   rw [List.pairwise_cons] at hs
   have h0:notAfter prev y.path=false:=by
    cases prev with
    | none=>rfl
    | some q =>
      have h1:ltS q y.path=true:=hp q rfl y (by simp)
      show leS y.path q=false
      cases h2:leS y.path q
      ·rfl
      ·unfold leS at h2
       rw [Bool.or_eq_true] at h2
       rcases h2 with h2 | h2
       ·have:=ltS_trans (x:=y.path) (y:=q) (z:=y.path) h2 h1
        rw [ltS_irrefl] at this; cases this
       ·have e:y.path.toList=q.toList:=by simpa using h2
        rw [ltS_eq_r (z:=q) e,ltS_irrefl] at h1; cases h1
   have h1:fileErr prev y=0:=by
    obtain ⟨e1,e2⟩:=he y (by simp)
    have e1:isPathS y.path=true:=e1
    unfold fileErr
    rw [if_neg (by rw [e1]; decide),if_neg (by omega),h0]
    rfl
   rw [filesErr,if_pos h1]
   exact filesErr_ok hs.2 (fun z hz=>he z (by simp [hz])) fun q hq z hz=>by
    cases hq
    exact hs.1 z hz
structure ResultRight (a:ActionV) (F:List FileV):Prop where
 right:checkResultS (execS a F)=0
 code:CodeOk (execS a F).code
 command:0≤(execS a F).command∧(execS a F).command≤a.commands.length
 none_:(execS a F).code=0→(execS a F).command=0
 some_:1 < (execS a F).code→0 < (execS a F).command
 bad:(execS a F).code≠0→(execS a F).files=[]
 good:(execS a F).code=0→(execS a F).files.map FileV.path=a.outputs
theorem wrote_start (a:ActionV):WroteOk a startS:=⟨List.Pairwise.nil,(fun x hx=>by cases hx),rfl,by decide,rfl,rfl,by decide⟩
theorem result_right {a:ActionV} {F:List FileV} (hc:∀ c∈a.commands,checkCommandS c=0) (hl:a.commands.length≤50) (ho:checkOutputsS a.outputs=0) (hF:∀ x∈F,IsP x.path) (hn:F.length≤1000):ResultRight a F:=by
 obtain ⟨o1,o2,o3,o4⟩:=outs_parts ho
 have hg:=gives_run a a.commands 0 hc F startS
 have hw:=keepsW_run a o2 a.commands 0 hc F startS (wrote_start a)
 have hall:=run_all a F a.commands 0 startS
 have hlooks:=(looks_right hc hl hF hn).right
 obtain ⟨g1,g2,g3,g4⟩:=hg
 have hgood:(runE a a.commands 0 F startS).1.1=0→(runE a a.commands 0 F startS).2.written.map FileV.path=a.outputs:=fun h0=>by
  refine sorted_same ?_ o3 (fun p hp=>?_) (by rw [List.length_map]; exact hall h0)
  ·rw [List.pairwise_map]; exact hw.sorted
  ·obtain ⟨x,hx,rfl⟩:=List.mem_map.1 hp
   obtain ⟨o,hom,hoe⟩:=(hw.own x hx).1
   have e:o=x.path:=bytes_eq (by rw [←Lib.toList_data,←Lib.toList_data]; exact hoe)
   rw [←e]; exact hom
 have hcode:(execS a F).code=(runE a a.commands 0 F startS).1.1:=rfl
 have hcmd:(execS a F).command=((runE a a.commands 0 F startS).1.2:Int):=rfl
 have htext:(execS a F).text=⟨(runE a a.commands 0 F startS).2.told.toArray⟩:=rfl
 have hfiles:(execS a F).files=if (runE a a.commands 0 F startS).1.1=0 then (runE a a.commands 0 F startS).2.written else []:=rfl
 have hcl:(runE a a.commands 0 F startS).1.2≤a.commands.length:=by omega
 refine ⟨?_,g1,⟨by rw [hcmd]; omega,by rw [hcmd]; omega⟩,fun h=>by rw [hcmd,g3 (hcode ▸ h)]; rfl,fun h=>by rw [hcmd]; have:=g4 (hcode ▸ h); omega,fun h=>by rw [hfiles,if_neg (hcode ▸ h)],fun h=>by rw [hfiles,if_pos (hcode ▸ h)]; exact hgood (hcode ▸ h)⟩
 have hck:checkFilesS (execS a F).files=0:=by
  rw [hfiles]
  split
  ·rename_i h0
   have h1:=hgood h0
   have h2:(runE a a.commands 0 F startS).2.written.length=a.outputs.length:=by rw [←h1,List.length_map]
   have h3:=filesErr_ok (prev:=none) hw.sorted (fun x hx=>⟨(hw.own x hx).2.2,(hw.own x hx).2.1⟩) fun q hq=>by cases hq
   have h4:((runE a a.commands 0 F startS).2.written.any fun x=>clashS (runE a a.commands 0 F startS).2.written x.path)=false:=by
    rw [List.any_eq_false]
    intro x hx hcl
    obtain ⟨y,hy,hly⟩:=clash_lies hcl
    have:=o4 x.path (h1 ▸ List.mem_map.2 ⟨x,hx,rfl⟩) y.path (h1 ▸ List.mem_map.2 ⟨y,hy,rfl⟩)
    rw [this] at hly; cases hly
   have h5:=hw.total
   have h6:=hw.small
   unfold checkFilesS
   rw [if_neg (by omega),if_neg (by rw [h3]; simp),if_neg (by rw [h4]; simp),if_neg (by omega)]
  ·rfl
 have htx:isTextS (execS a F).text=true:=by
  rw [htext]
  unfold isTextS
  rw [Bool.and_eq_true]
  exact ⟨hw.told.1,hw.told.2.1⟩
 have hts:¬ (100000:Int) < ((execS a F).text.size:Int):=by
  rw [htext]
  have:=hw.told.2.2
  have h1:(⟨(runE a a.commands 0 F startS).2.told.toArray⟩:ByteArray).size=(runE a a.commands 0 F startS).2.told.length:=by simp [ByteArray.size]
  omega
 have hwi:(withinB (execS a F).code 0 999999 && withinB (execS a F).command 0 50)=true:=by
  rw [hcode,hcmd]
  unfold withinB
  obtain ⟨c1,c2⟩:=g1
  simp only [Bool.and_eq_true,decide_eq_true_eq]
  exact ⟨⟨by omega,by omega⟩,by omega,by omega⟩
 have hbad:((!(execS a F).files.isEmpty) && (execS a F).code != 0)=false:=by
  rw [hfiles,hcode]
  split
  ·rename_i h0; rw [h0]; simp
  ·rfl
 unfold checkResultS
 rw [if_neg (by rw [hwi]; decide),if_neg hts,if_neg (by rw [htx]; decide),if_neg (by rw [hck]; decide),if_neg (by rw [hbad]; decide)]
 exact hlooks
end Go.Proofs.Sm
namespace Go.Proofs.Sm
open Go.RowKit
def lineLen (b:List UInt8):Nat:=if Lib.indexByte b 10=-1 then b.length else (Lib.indexByte b 10 + 1).toNat
theorem idx_cons (c:UInt8) (r:List UInt8):Lib.indexByte (c :: r) 10=if c=10 then 0 else if Lib.indexByte r 10=-1 then -1 else Lib.indexByte r 10 + 1:=by
 rw [Lib.indexByte]
 by_cases h:c=10
 ·simp [h]
 ·have h1:(c == 10)=false:=by simpa using h
  rw [if_neg h,h1]
  simp
theorem lineLen_cons (c:UInt8) (r:List UInt8):lineLen (c :: r)=if c=10 then 1 else lineLen r + 1:=by
 have hg:=Lib.indexByte_ge r 10
 unfold lineLen
 rw [idx_cons]
 by_cases h:c=10
 ·simp [h]
 ·simp only [if_neg h]
  by_cases h1:Lib.indexByte r 10=-1
  ·simp [h1]
  ·simp only [if_neg h1]
   rw [if_neg (by omega)]
   omega
theorem lineLen_pos {b:List UInt8} (h:b≠[]):0 < lineLen b:=by
 cases b with
 | nil=>exact absurd rfl h
 | cons c r=>rw [lineLen_cons]; split <;> omega
theorem lineLen_le:∀ b:List UInt8,lineLen b≤b.length
 | []=>by simp [lineLen,Lib.indexByte]
 | c :: r=>by
   have:=lineLen_le r
   rw [lineLen_cons,List.length_cons]
   split <;> omega
theorem linesS_nil:linesS []=[]:=rfl
theorem lines_cons (c:UInt8) (r:List UInt8):linesS (c :: r)=if c=10 then [10] :: linesS r else match linesS r with
 | []=>[[c]]
 | x :: xs=>(c :: x) :: xs:=by
 rw [linesS]
 split
 ·rfl
 ·cases h:linesS r with
  | nil=>rfl
  | cons x xs =>
    simp only
    split
    ·rename_i h1; rw [h1]
    ·rfl
theorem lines_step:∀ {b:List UInt8},b≠[]→linesS b=b.take (lineLen b) :: linesS (b.drop (lineLen b))
 | [],h=>absurd rfl h
 | c :: r,_=>by
   rw [lines_cons,lineLen_cons]
   by_cases h:c=10
   ·subst h; simp
   ·simp only [if_neg h]
    cases r with
    | nil=>simp [linesS,lineLen,Lib.indexByte]
    | cons d q =>
      rw [lines_step (b:=d :: q) (by simp)]
      simp
theorem lines_flat:∀ b:List UInt8,(linesS b).flatten=b
 | []=>rfl
 | c :: r=>by
   rw [lines_cons]
   have ih:=lines_flat r
   split
   ·rename_i h; rw [List.flatten_cons,ih,h]; rfl
   ·cases h:linesS r with
    | nil=>rw [h] at ih; simp at ih; simp [←ih]
    | cons x xs=>rw [h,List.flatten_cons] at ih; simp [←ih]
theorem lines_count:∀ b:List UInt8,(linesS b).length≤b.length
 | []=>Nat.le_refl _
 | c :: r=>by
   rw [lines_cons]
   have ih:=lines_count r
   split
   ·simpa using ih
   ·cases h:linesS r with
    | nil=>simp
    | cons x xs=>rw [h] at ih; simpa using Nat.le_succ_of_le ih
theorem line_short {b x:List UInt8} (h:x∈linesS b):x.length≤b.length:=by
 rw [←lines_flat b]
 generalize linesS b=L at h ⊢
 induction L with
 | nil=>cases h
 | cons y L ih =>
   rw [List.flatten_cons,List.length_append]
   rcases List.mem_cons.1 h with rfl | h
   ·omega
   ·have:=ih h; omega
theorem cutNl_len (s:List UInt8):(cutNl s).length≤s.length:=by
 unfold cutNl Lib.trimSuffix
 split
 ·simp
 ·exact Nat.le_refl _
end Go.Proofs.Sm
namespace Go.Proofs.Sm
open Go.RowKit
structure ExOk (a:ActionV) (F:List FileV) (M:Nat) (s:ExSt):Prop where
 looks:LooksFrom F (fun _=>True) s
 miss:missS F s.looks≤M
 wrote:WroteOk a s
section
variable {a:ActionV} {F:List FileV} {M:Nat} {s:ExSt} {α:Type}
theorem ExOk.step {m:Ex α} {M' c:Nat} {f:α→Nat} (h:ExOk a F M s) (ha:Asks (fun _=>True) F m) (hm:MissUp F c f m) (hk:KeepsW a m) (hM:M + f (m F s).1≤M' + c):ExOk a F M' (m F s).2 :=
 ⟨ha s h.looks,by have:=hm s; have:=h.miss; omega,hk F s h.wrote⟩
theorem ExOk.more {M':Nat} (h:ExOk a F M s) (hM:M≤M'):ExOk a F M' s:=⟨h.looks,Nat.le_trans h.miss hM,h.wrote⟩
theorem ExOk.many (h:ExOk a F M s):s.looks.length≤F.length + M:=by
 have:=looks_count h.looks
 have:=h.miss
 omega
theorem ExOk.start (a:ActionV) (F:List FileV):ExOk a F 0 startS:=⟨⟨List.Pairwise.nil,fun y hy=>by cases hy⟩,Nat.le_refl _,wrote_start a⟩
theorem ExOk.find (h:ExOk a F M s) (p:ByteArray):ExOk a F (M + noneN (findE p F s).1) (findE p F s).2 :=
 h.step (asks_find trivial) (miss_find p 0) ((quiet_find p).keepsW a) (by omega)
theorem find_short {p:ByteArray} {x:FileV} (h:ExOk a F M s) (hF:∀ y∈F,y.bytes.length≤100000) (hx:(findE p F s).1=some x):x.bytes.length≤100000:=by
 unfold findE at hx
 split at hx
 ·rename_i y hy
  cases hx
  exact (h.wrote.own _ (List.mem_of_find?_eq_some hy)).2.1
 ·exact hF _ (List.mem_of_find?_eq_some hx)
theorem read_short {p:ByteArray} (h:ExOk a F M s) (hF:∀ y∈F,y.bytes.length≤100000):(readE p F s).1.1.length≤100000:=by
 unfold readE Ex.bind
 cases hx:(findE p F s).1 with
 | none=>simp [Ex.ret]
 | some x=>exact find_short h hF hx
end
end Go.Proofs.Sm
