/- There is a reason just for what is due: the given statement, for all arguments; no condition. -/
import Derived.Test.YtaabdbephemboaaGreatDoorBx1
import Derived.Test.YtaabdbephemboaaGreatDoorBx2
import Derived.Test.YtaabdbephemboaaGreatDoorBx3
import Derived.Test.YtaabdbephemboaaGreatDoorBx4
import Derived.Test.YtaabdbephemboaaGreatDoorBx5
import Derived.Test.YtaabdbephemboaaGreatDoorBx6
import Derived.Test.YtaabdbephemboaaGreatDoorBx7
import Derived.Test.YtaabdbephemboaaGreatDoorBx8
import Derived.Test.YtaabdbephemboaaGreatDoorBx9
import Derived.Test.YtaabdbephemboaaGreatDoorBx10
import Derived.Test.YtaabdbephemboaaGreatDoorBx11
import Derived.Test.YtaabdbephemboaaGreatDoorBx12
import Derived.Test.YtaabdbephemboaaGreatDoorBx13
import Derived.Test.YtaabdbephemboaaGreatDoorBx14
import Derived.Test.YtaabdbephemboaaGreatDoorBx15
import Derived.Test.YtaabdbephemboaaGreatDoorBx16
import Derived.Test.YtaabdbephemboaaGreatDoorBx17
import Derived.Test.YtaabdbephemboaaGreatDoorBx18
import Derived.Test.YtaabdbephemboaaGreatDoorBx19
import Derived.Test.YtaabdbephemboaaGreatDoorBx20
import Derived.Test.YtaabdbephemboaaGreatDoorBx21
import Derived.Test.YtaabdbephemboaaGreatDoorBx22
import Derived.Test.YtaabdbephemboaaGreatDoorBx23
import Derived.Test.YtaabdbephemboaaGreatDoorBx24
import Derived.Test.YtaabdbephemboaaGreatDoorBx25
import Derived.Test.YtaabdbephemboaaGreatDoorBx26
import Derived.Test.YtaabdbephemboaaGreatDoorBx27
import Derived.Test.YtaabdbephemboaaGreatDoorBx28
import Derived.Test.YtaabdbephemboaaGreatDoorBx29
import Derived.Test.YtaabdbephemboaaGreatDoorBx30
import Derived.Test.YtaabdbephemboaaGreatDoorBx31
import Derived.Test.YtaabdbephemboaaGreatDoorBx32
import Derived.Test.YtaabdbephemboaaGreatDoorBx33
import Derived.Test.YtaabdbephemboaaGreatDoorBx34
import Derived.Test.YtaabdbephemboaaGreatDoorBx35
import Derived.Test.YtaabdbephemboaaGreatDoorBx36
import Derived.Test.YtaabdbephemboaaGreatDoorT26x2
import Derived.Test.YtaabdbephemboaaGreatDoorCardZRC26
namespace Go.Proofs.YtaabdbephemboaaGreatDoor.because
open Go.ChangeShapes Go.WideShapes Go.ChangeAt Go.RowKit Go.Proofs.Sm
noncomputable def laidWorld (os:Os):World:=errWorld (tableWorld os [(2,Rows.laid_unicode_utf8_first),(3,Rows.laid_unicode_utf8_acceptRanges),(1,Rows.laid_internal_strconv_uint64pow10),(6,Rows.laid_math_bits_deBruijn32tab),(7,Rows.laid_math_bits_deBruijn64tab)])
 322 324 [(5,[118,97,108,117,101,32,111,117,116,32,111,102,32,114,97,110,103,101]),(4,[105,110,118,97,108,105,100,32,115,121,110,116,97,120])]
theorem laid_met (os:Os) (args:Array Value):laidMet Tryz.prog Rows.stepsBecauseIsDueRow.laid ((laidWorld os).forCall (fun _ _=>0) ⟨#[],args,[]⟩).memory :=
 (LaidIn.of_run (l:=Rows.stepsBecauseIsDueRow.laid) (List.range 30) 8 (by kernel_rfl) (by kernel_rfl) (by kernel_rfl) (by kernel_rfl)).met
theorem reads (os:Os) {H:Type} (enc:TypeId × Value→H):∃ ds places,DataW.whole enc Tryz.prog ((laidWorld os).forCall (fun _ _=>0) ⟨#[],#[.slice none 0 0,.slice none 0 0,.string ⟨#[]⟩,.slice none 0 0],[]⟩).memory Tryz.f6.params.toList Rows.stepsBecauseIsDueSpec.vars false #[Value.slice none 0 0,Value.slice none 0 0,Value.string ⟨#[]⟩,Value.slice none 0 0].toList 8=some (ds,[],places) :=
 ⟨[.nil,.nil,.lit (.string []),.nil],[],by kernel_rfl⟩
set_option maxRecDepth 100000 in
theorem contract (H:Type) (enc:TypeId × Value→H) (W:World) (base:Nat) (args:Array Value) (ds gs:List (DataW H)) (before:List MemPlace)
 (hval:∀ (j:Nat) t v,Tryz.f6.params[j]?=some t→args[j]?=some v→Value.okWide Tryz.prog W .any base t v)
 (hW:DataW.Whole enc Tryz.prog Tryz.f6.params.toList Rows.stepsBecauseIsDueSpec.vars false W args.toList ds gs before) (hE:Env2 W) :
 Calls Tryz.prog 6 args W fun e W'=>∃ v,e=.returned v∧Rows.stepsBecauseIsDueSpec.post enc Tryz.prog Tryz.f6 false true false false W args v W':=by
 have hW':=hW
 obtain ⟨p,q,hA0,hV,rfl,hfz,hnd⟩:=hW
 have hA:DataW.TrodAll enc Tryz.prog W 0 (fun _=>true) true Tryz.f6.params.toList args.toList ds p:=hA0
 rw [Tryz.params6] at hA hval
 obtain ⟨v0,vs0,d0,ds0,p0,q0,hargs,rfl,rfl,h0,r0⟩:=trodAll_cons hA
 obtain ⟨v1,vs1,d1,ds1,p1,q1,rfl,rfl,rfl,h1,r1⟩:=trodAll_cons r0
 obtain ⟨v2,vs2,d2,ds2,p2,q2,rfl,rfl,rfl,h2,r2⟩:=trodAll_cons r1
 obtain ⟨v3,vs3,d3,ds3,p3,q3,rfl,rfl,rfl,h3,r3⟩:=trodAll_cons r2
 obtain ⟨rfl,rfl,rfl⟩:=trodAll_nil r3
 obtain rfl:args=#[v0,v1,v2,v3]:=by cases args; simp_all
 obtain ⟨rfl,rfl⟩:=trodVars_none hV
 have k0:=h0
 have lt0:∀ x∈p0,x.block < W.heap.size:=by obtain ⟨m,hm⟩:=k0; exact DataW.trod_lt m _ _ _ hm
 have k1:=h1
 have lt1:∀ x∈p1,x.block < W.heap.size:=by obtain ⟨m,hm⟩:=k1; exact DataW.trod_lt m _ _ _ hm
 have k2:=h2
 have lt2:∀ x∈p2,x.block < W.heap.size:=by obtain ⟨m,hm⟩:=k2; exact DataW.trod_lt m _ _ _ hm
 have k3:=h3
 have lt3:∀ x∈p3,x.block < W.heap.size:=by obtain ⟨m,hm⟩:=k3; exact DataW.trod_lt m _ _ _ hm
 obtain ⟨A0,n0,c0,l0,rfl,hs0⟩:=arg_slice dec_rules (okWide_slice Tryz.underlying22 (hval 0 22 v0 rfl rfl)) h0
 obtain ⟨A1,n1,c1,l1,rfl,hs1⟩:=arg_slice dec_files (okWide_slice Tryz.underlying23 (hval 1 23 v1 rfl rfl)) h1
 obtain ⟨s2,rfl⟩:=okWide_string Tryz.underlying9 (hval 2 9 v2 rfl rfl)
 have hs2:s2.size≤maxLen:=by
  obtain ⟨fuel',hf'⟩:=h2
  obtain ⟨s',e',_,z'⟩:=DataW.trod_string Tryz.underlying9 hf'
  have:s2=s':=by simpa [Value.cells] using e'
  rw [this]; exact z'
 obtain ⟨A3,n3,c3,l3,rfl,hs3⟩:=arg_slice dec_mems (okWide_slice Tryz.underlying26 (hval 3 26 v3 rfl rfl)) h3
 clear hA0
 refine (law_because A0 A1 A3 n0 c0 n1 c1 n3 c3 l0 l1 s2 l3 W hE hs0 hs1 hs2 hs3).mono fun e W' ⟨he,bel⟩=>?_
 subst he
 exact ⟨_,rfl,_,_,_,[],_,[],hW',trodAll_mk1 (shut_bool Tryz.underlying4 _),(trodAll_cons_mk (Below.trod laidOut (by kernel_rfl) (of_decide_eq_true (by kernel_rfl)) k0 bel lt0) (trodAll_cons_mk (Below.trod laidOut (by kernel_rfl) (of_decide_eq_true (by kernel_rfl)) k1 bel lt1) (trodAll_cons_mk (Below.trod laidOut (by kernel_rfl) (of_decide_eq_true (by kernel_rfl)) k2 bel lt2) (trodAll_cons_mk (Below.trod laidOut (by kernel_rfl) (of_decide_eq_true (by kernel_rfl)) k3 bel lt3) trodAll_mk0)))),rfl,bel.frame _,fun h=>by cases h⟩
set_option maxRecDepth 100000 in
theorem lifted (os:Os) (started:os.Started) (H:Type) (enc:TypeId × Value→H) (F:Stop.Interp) :
 ReturnsInHanded {} Tryz.checked os 6 .any ((OpenSpec.ofChange Rows.stepsBecauseIsDueSpec).preRow enc Tryz.prog Tryz.f6 Rows.stepsBecauseIsDueRow.domain false Rows.stepsBecauseIsDueRow.laid) (((OpenSpec.ofChange Rows.stepsBecauseIsDueSpec).at F).post enc Tryz.prog Tryz.f6 false true false false):=by
 obtain ⟨d,places,hx⟩:=reads os enc
 refine returnsInHanded_of_row (C:=Tryz.checked) (s:=OpenSpec.ofChange Rows.stepsBecauseIsDueSpec) own started (by kernel_rfl) Tryz.func6
  (witness_row_atRef (enc:=enc) (C:=Tryz.checked) false (laidWorld os) #[.slice none 0 0,.slice none 0 0,.string ⟨#[]⟩,.slice none 0 0] rfl (by kernel_rfl) (by kernel_rfl) (by kernel_rfl)
    (OpenSpec.preRow_of_cond 8 hx (by kernel_rfl) (fun k hk=>by cases hk) (by kernel_rfl) (laid_met os _))) ?_
 intro W base args ds gs before hval hW _ _ _ hL hS _
 exact contract H enc W base args ds gs before hval hW (env2_of hL hS (by simp [Rows.stepsBecauseIsDueRow,Rows.laid_unicode_utf8_first]) (by simp [Rows.stepsBecauseIsDueRow]) (by simp [Rows.stepsBecauseIsDueRow]))
theorem said:Rows.StepsBecauseIsDueSaid :=
 OpenClaim.holds_of_cond 6 Tryz.f6 rfl rfl rfl rfl rfl rfl rfl ⟨rfl,rfl,rfl,rfl,rfl⟩ rfl rfl rfl rfl rfl (by kernel_rfl) Tryz.func6 closed
  (of_decide_eq_true (by as_aux_lemma=>kernel_rfl)) (by unfold Func.isWrapper; first | (rw [if_pos (by decide +kernel)]; kernel_rfl) | (rw [if_neg (by decide +kernel)]; exact ⟨rfl,rfl⟩))
  (fun os started H enc _ F=>by rw [OpenClaim.pre_eq_preRow]; exact lifted os started H enc F)
theorem plain (f:FuncId) (fn:Func) (hf:Tryz.pinned.checked.prog.funcNamed Rows.stepsBecauseIsDueRow.func=some f) (hfn:Tryz.pinned.checked.prog.funcs[f]?=some fn) :
 true=Tryz.pinned.checked.prog.looks []∧∀ (j:Nat) t,fn.params[j]?=some t→Tryz.pinned.checked.prog.wantsStandIn t=false:=by
 obtain rfl:f=6:=Option.some.inj ((show Tryz.prog.funcNamed Rows.stepsBecauseIsDueRow.func=some 6 by kernel_rfl).symm.trans hf) |>.symm
 obtain rfl:fn=Tryz.f6:=(Option.some.inj (Tryz.func6.symm.trans hfn)).symm
 refine ⟨by kernel_rfl,fun j t ht=>?_⟩
 rw [Tryz.params6] at ht
 have hm:t=22∨t=23∨t=9∨t=26:=by simpa using Array.mem_of_getElem? ht
 rcases hm with rfl | rfl | rfl | rfl
 ·exact (show Tryz.prog.wantsStandIn 22=false by kernel_rfl)
 ·exact (show Tryz.prog.wantsStandIn 23=false by kernel_rfl)
 ·exact (show Tryz.prog.wantsStandIn 9=false by kernel_rfl)
 ·exact (show Tryz.prog.wantsStandIn 26=false by kernel_rfl)
theorem card:Rows.StepsBecauseIsDueCardSaid :=
 Claim7.holds_tied_plain_at .later [] _ _ _ _ said (fun _ h=>by cases h) (by as_aux_lemma=>kernel_rfl) (fun _ h=>by cases h) stepsBecauseIsDue_row_tie rfl ⟨rfl,rfl⟩ (by as_aux_lemma=>kernel_rfl) rfl plain (by as_aux_lemma=>kernel_rfl)
end Go.Proofs.YtaabdbephemboaaGreatDoor.because
