/- CheckAction and Text are as specified, with all errors: the given statement, for every action; no condition. -/
import Derived.Test.YtfdobbclpacijaaGreatDoorTopJ
import Derived.Test.YtfdobbclpacijaaGreatDoorCardZClosed
import Derived.Test.YtfdobbclpacijaaGreatDoorW40J
namespace Go.Proofs.YtfdobbclpacijaaGreatDoor.checks
open Go.ChangeShapes Go.WideShapes Go.ChangeAt Go.RowKit Go.Proofs.Sm

noncomputable def laidWorld (os : Os) : World := errWorld (tableWorld os [(4, Rows.laid_unicode_utf8_first), (5, Rows.laid_unicode_utf8_acceptRanges), (1, Rows.laid_internal_strconv_uint64pow10), (6, Rows.laid_math_bits_deBruijn32tab), (7, Rows.laid_math_bits_deBruijn64tab)])
  274 276 [(3, [118, 97, 108, 117, 101, 32, 111, 117, 116, 32, 111, 102, 32, 114, 97, 110, 103, 101]), (2, [105, 110, 118, 97, 108, 105, 100, 32, 115, 121, 110, 116, 97, 120])]
def arg0 : Value := .agg #[.string ⟨#[]⟩, .slice none 0 0, .slice none 0 0, .slice none 0 0, .slice none 0 0, .int .i64 0]
theorem laid_met (os : Os) (args : Array Value) : laidMet Tryz.prog Rows.actionChecksMatchSpecRow.laid ((laidWorld os).forCall (fun _ _ => 0) ⟨#[], args, []⟩).memory :=
  (LaidIn.of_run (l := Rows.actionChecksMatchSpecRow.laid) (List.range 30) 8 (by kernel_rfl) (by kernel_rfl) (by kernel_rfl) (by kernel_rfl)).met
theorem reads (os : Os) {H : Type} (enc : TypeId × Value → H) : ∃ d places, DataW.whole enc Tryz.prog ((laidWorld os).forCall (fun _ _ => 0) ⟨#[], #[arg0], []⟩).memory Tryz.f6.params.toList Rows.actionChecksMatchSpecSpec.vars false #[arg0].toList 8 = some ([d], [], places) :=
  ⟨.agg [.lit (.string []), .nil, .nil, .nil, .nil, .lit (.int .i64 0)], [], by kernel_rfl⟩

set_option maxRecDepth 100000 in
theorem contract (H : Type) (enc : TypeId × Value → H) (W : World) (base : Nat) (args : Array Value) (ds gs : List (DataW H)) (before : List MemPlace)
    (hval : ∀ (j : Nat) t v, Tryz.f6.params[j]? = some t → args[j]? = some v → Value.okWide Tryz.prog W .any base t v)
    (hW : DataW.Whole enc Tryz.prog Tryz.f6.params.toList Rows.actionChecksMatchSpecSpec.vars false W args.toList ds gs before) (hE : Env2 W) :
    Calls Tryz.prog 6 args W fun e W' => ∃ v, e = .returned v ∧ Rows.actionChecksMatchSpecSpec.post enc Tryz.prog Tryz.f6 false true false false W args v W' := by
  have hW' := hW
  obtain ⟨p, q, hA0, hV, rfl, hfz, hnd⟩ := hW
  have hA : DataW.TrodAll enc Tryz.prog W 0 (fun _ => true) true Tryz.f6.params.toList args.toList ds p := hA0
  rw [Tryz.params6] at hA hval
  obtain ⟨v0, d0, hargs, rfl, h0⟩ := trodAll_one hA
  obtain rfl : args = #[v0] := by cases args; simp_all
  obtain ⟨rfl, rfl⟩ := trodVars_none hV
  have k0 := h0
  have lt0 : ∀ x ∈ p, x.block < W.heap.size := by obtain ⟨m, hm⟩ := k0; exact DataW.trod_lt m _ _ _ hm
  obtain ⟨cs, rfl, hsz⟩ := okWide_struct Tryz.underlying39 (hval 0 39 v0 rfl rfl)
  obtain ⟨fuel, hf⟩ := h0
  obtain ⟨a, A, n, n', B, m, m', C, k, k', D, r, r', hr, hcs⟩ := action_of hf
  obtain ⟨l⟩ := cs
  obtain rfl : l = _ := hcs
  clear hA0 hf hsz
  refine (law_checks a A n n' B m m' C k k' D r r' W hE hr).mono fun e W' ⟨he, bel⟩ => ?_
  subst he
  exact ⟨_, rfl, _, _, _, [], _, [], hW', trodAll_mk1 (shut_bool Tryz.underlying4 _), trodAll_cons_mk (Below.trod laidOut (by kernel_rfl) (of_decide_eq_true (by kernel_rfl)) k0 bel lt0) trodAll_mk0, rfl, bel.frame _, fun h => by cases h⟩

set_option maxRecDepth 100000 in
theorem lifted (os : Os) (started : os.Started) (H : Type) (enc : TypeId × Value → H) (F : Stop.Interp) :
    ReturnsInHanded {} Tryz.checked os 6 .any ((OpenSpec.ofChange Rows.actionChecksMatchSpecSpec).preRow enc Tryz.prog Tryz.f6 Rows.actionChecksMatchSpecRow.domain false Rows.actionChecksMatchSpecRow.laid) (((OpenSpec.ofChange Rows.actionChecksMatchSpecSpec).at F).post enc Tryz.prog Tryz.f6 false true false false) := by
  obtain ⟨d, places, hx⟩ := reads os enc
  refine returnsInHanded_of_row (C := Tryz.checked) (s := OpenSpec.ofChange Rows.actionChecksMatchSpecSpec) own started (by kernel_rfl) Tryz.func6
    (witness_row_atRef (enc := enc) (C := Tryz.checked) false (laidWorld os) #[arg0] rfl (by kernel_rfl) (by kernel_rfl) (by kernel_rfl)
      (OpenSpec.preRow_of_cond 8 hx (by kernel_rfl) (fun k hk => by cases hk) (by kernel_rfl) (laid_met os _))) ?_
  intro W base args ds gs before hval hW _ _ _ hL hS _
  exact contract H enc W base args ds gs before hval hW (env2_of hL hS (by simp [Rows.actionChecksMatchSpecRow, Rows.laid_unicode_utf8_first]) (by simp [Rows.actionChecksMatchSpecRow]) (by simp [Rows.actionChecksMatchSpecRow]))

theorem said : Rows.ActionChecksMatchSpecSaid :=
  OpenClaim.holds_of_cond 6 Tryz.f6 rfl rfl rfl rfl rfl rfl rfl ⟨rfl, rfl, rfl, rfl, rfl⟩ rfl rfl rfl rfl rfl (by kernel_rfl) Tryz.func6 closed
    (of_decide_eq_true (by as_aux_lemma => kernel_rfl)) (by unfold Func.isWrapper; first | (rw [if_pos (by decide +kernel)]; kernel_rfl) | (rw [if_neg (by decide +kernel)]; exact ⟨rfl, rfl⟩))
    (fun os started H enc _ F => by rw [OpenClaim.pre_eq_preRow]; exact lifted os started H enc F)

theorem plain (f : FuncId) (fn : Func) (hf : Tryz.pinned.checked.prog.funcNamed Rows.actionChecksMatchSpecRow.func = some f) (hfn : Tryz.pinned.checked.prog.funcs[f]? = some fn) :
    true = Tryz.pinned.checked.prog.looks [] ∧ ∀ (j : Nat) t, fn.params[j]? = some t → Tryz.pinned.checked.prog.wantsStandIn t = false := by
  obtain rfl : f = 6 := Option.some.inj ((show Tryz.prog.funcNamed Rows.actionChecksMatchSpecRow.func = some 6 by kernel_rfl).symm.trans hf) |>.symm
  obtain rfl : fn = Tryz.f6 := (Option.some.inj (Tryz.func6.symm.trans hfn)).symm
  refine ⟨by kernel_rfl, fun j t ht => ?_⟩
  rw [Tryz.params6] at ht
  have hm : t = 39 := by simpa using Array.mem_of_getElem? ht
  subst hm
  exact (show Tryz.prog.wantsStandIn 39 = false by kernel_rfl)

/-- The card. -/
theorem card : Rows.ActionChecksMatchSpecCardSaid :=
  Claim7.holds_tied_plain_at .later [] _ _ _ _ said (fun _ h => by cases h) (by as_aux_lemma => kernel_rfl) (fun _ h => by cases h) actionChecksMatchSpec_row_tie rfl ⟨rfl, rfl⟩ (by as_aux_lemma => kernel_rfl) rfl plain (by as_aux_lemma => kernel_rfl)
end Go.Proofs.YtfdobbclpacijaaGreatDoor.checks
