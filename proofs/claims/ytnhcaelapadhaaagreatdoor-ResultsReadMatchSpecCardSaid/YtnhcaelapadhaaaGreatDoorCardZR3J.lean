/- ReadResult is as specified for any string, with the places of errors: the given statement, for all arguments; no condition. -/
import Derived.Test.YtnhcaelapadhaaaGreatDoorCards
import Derived.Test.YtnhcaelapadhaaaGreatDoorTie
import Derived.Test.YtnhcaelapadhaaaGreatDoorW18
import Derived.OpenShut
import Derived.ShutString
import Derived.ChangeOld
import Derived.Deep.DeepHandedRow
import Derived.Deep.DeepWitnessRowRef
import Derived.Lib.LaidU8
import Derived.Lib.LaidTab
import Derived.Test.YtnhcaelapadhaaaGreatDoorW23
import Derived.Lib.LaidIn
import Derived.Test.YtnhcaelapadhaaaGreatDoorCardZRC3
import Derived.Test.YtnhcaelapadhaaaGreatDoorW62J
namespace Go.Proofs.Sm
open Go.RowKit Go.ChangeShapes Go.WideShapes Go.ChangeAt

theorem own : ownKnob Tryz.prog.godebug = none := by kernel_rfl
theorem laidOut : laidOutB Tryz.prog = true := by kernel_rfl

section
variable {H : Type} {enc : TypeId × Value → H} {w : World} {base : Nat} {spare : Nat → Bool} {held : Bool}
theorem at_some {α : Type} {xs : List α} {n i : Nat} (h : xs.length = n) (hi : i < n) : ∃ y, xs[i]? = some y := ⟨xs[i]'(by omega), List.getElem?_eq_getElem _⟩
theorem three_of {α : Type} {l : List α} (h : l.length = 3) : ∃ a b c, l = [a, b, c] := by
  rcases l with _ | ⟨a, _ | ⟨b, _ | ⟨c, _ | ⟨e, r⟩⟩⟩⟩
  · simp at h
  · simp at h
  · simp at h
  · exact ⟨a, b, c, rfl⟩
  · simp at h
theorem dec_look : Dec enc Tryz.prog w base spare held 57 Look := fun fuel cs d h => by
  obtain ⟨xs, n, _, _, hlen, hxl, hf⟩ := DataW.trod_struct Tryz.underlying57 h
  have hc : Tryz.prog.cellsOf 57 = 3 := by kernel_rfl
  have cS : Tryz.prog.cellsOf 9 = 1 := by kernel_rfl
  have cB : Tryz.prog.cellsOf 4 = 1 := by kernel_rfl
  rw [hc] at hlen
  have hxl' : xs.length = 3 := hxl
  obtain ⟨a, b, c, rfl⟩ := three_of hlen
  · -- the three cells
    obtain ⟨y0, e0⟩ := at_some hxl' (show 0 < 3 by decide)
    obtain ⟨y1, e1⟩ := at_some hxl' (show 1 < 3 by decide)
    obtain ⟨y2, e2⟩ := at_some hxl' (show 2 < 3 by decide)
    have f0 : DataW.trod enc Tryz.prog w base spare held n 9 [a] = some y0 := by
      have h := (hf 0 _ rfl).trans e0
      change DataW.trod enc _ w base spare held n 9 (List.take (Tryz.prog.cellsOf 9) (List.drop 0 [a, b, c])) = some y0 at h
      rw [cS] at h
      exact h
    have f1 : DataW.trod enc Tryz.prog w base spare held n 9 [b] = some y1 := by
      have h := (hf 1 _ rfl).trans e1
      change DataW.trod enc _ w base spare held n 9 (List.take (Tryz.prog.cellsOf 9) (List.drop 1 [a, b, c])) = some y1 at h
      rw [cS] at h
      exact h
    have f2 : DataW.trod enc Tryz.prog w base spare held n 4 [c] = some y2 := by
      have h := (hf 2 _ rfl).trans e2
      change DataW.trod enc _ w base spare held n 4 (List.take (Tryz.prog.cellsOf 4) (List.drop 2 [a, b, c])) = some y2 at h
      rw [cB] at h
      exact h
    obtain ⟨s0, h0, _, z0⟩ := DataW.trod_string Tryz.underlying9 f0
    obtain ⟨s1, h1, _, z1⟩ := DataW.trod_string Tryz.underlying9 f1
    obtain ⟨r, h2, _⟩ := DataW.trod_bool Tryz.underlying4 f2
    cases h0; cases h1; cases h2
    exact ⟨⟨s0, s1, r⟩, rfl, z0, z1⟩
theorem dec_bytes : Dec enc Tryz.prog w base spare held 63 (List UInt8) := dec_slice Tryz.underlying63 (by kernel_rfl) (by decide) (dec_u8 Tryz.underlying5)
theorem dec_file : Dec enc Tryz.prog w base spare held 65 FileV := fun fuel cs d h => by
  obtain ⟨xs, n, _, _, hlen, hxl, hf⟩ := DataW.trod_struct Tryz.underlying65 h
  have hc : Tryz.prog.cellsOf 65 = 3 := by kernel_rfl
  have cS : Tryz.prog.cellsOf 9 = 1 := by kernel_rfl
  have cB : Tryz.prog.cellsOf 4 = 1 := by kernel_rfl
  have cL : Tryz.prog.cellsOf 63 = 1 := by kernel_rfl
  rw [hc] at hlen
  have hxl' : xs.length = 3 := hxl
  obtain ⟨a, b, c, rfl⟩ := three_of hlen
  · -- the three cells
    obtain ⟨y0, e0⟩ := at_some hxl' (show 0 < 3 by decide)
    obtain ⟨y1, e1⟩ := at_some hxl' (show 1 < 3 by decide)
    obtain ⟨y2, e2⟩ := at_some hxl' (show 2 < 3 by decide)
    have f0 : DataW.trod enc Tryz.prog w base spare held n 9 [a] = some y0 := by
      have h := (hf 0 _ rfl).trans e0
      change DataW.trod enc _ w base spare held n 9 (List.take (Tryz.prog.cellsOf 9) (List.drop 0 [a, b, c])) = some y0 at h
      rw [cS] at h
      exact h
    have f1 : DataW.trod enc Tryz.prog w base spare held n 4 [b] = some y1 := by
      have h := (hf 1 _ rfl).trans e1
      change DataW.trod enc _ w base spare held n 4 (List.take (Tryz.prog.cellsOf 4) (List.drop 1 [a, b, c])) = some y1 at h
      rw [cB] at h
      exact h
    have f2 : DataW.trod enc Tryz.prog w base spare held n 63 [c] = some y2 := by
      have h := (hf 2 _ rfl).trans e2
      change DataW.trod enc _ w base spare held n 63 (List.take (Tryz.prog.cellsOf 63) (List.drop 2 [a, b, c])) = some y2 at h
      rw [cL] at h
      exact h
    obtain ⟨s0, h0, _, z0⟩ := DataW.trod_string Tryz.underlying9 f0
    obtain ⟨r, h1, _⟩ := DataW.trod_bool Tryz.underlying4 f1
    obtain ⟨bs, A, k, m, h2, q1, q2, q3⟩ := dec_bytes _ _ _ f2
    cases h0; cases h1; cases h2
    exact ⟨⟨s0, r, bs⟩, z0, A, k, m, rfl, q1, q2, q3⟩
theorem dec_looks : Dec enc Tryz.prog w base spare held 23 (List Look) := dec_slice Tryz.underlying23 (by kernel_rfl) (by decide) dec_look
theorem dec_files : Dec enc Tryz.prog w base spare held 22 (List FileV) := dec_slice Tryz.underlying22 (by kernel_rfl) (by decide) dec_file
/-- a slice argument, as a value -/
theorem arg_slice {α : Type} [Rep α] {t : TypeId} {v : Value} {d : DataW H} {p : List MemPlace} (hd : Dec enc Tryz.prog w base spare held t (List α)) (hv : ∃ a n c, v = .slice a n c) (h : DataW.Trod enc Tryz.prog w base spare held t v d p) :
    ∃ (A : Option Addr) (n c : Nat) (l : List α), v = .slice A n c ∧ Sl w (Lt w.heap.size) A n l := by
  obtain ⟨a, n, c, rfl⟩ := hv
  obtain ⟨fuel, hf⟩ := h
  obtain ⟨l, A, n', c', e, _, _, hs⟩ := hd _ _ _ hf
  simp [Value.cells] at e
  obtain ⟨rfl, rfl, rfl⟩ := e
  exact ⟨_, _, _, l, rfl, hs⟩
end
theorem first_pinned : Go.Pinned.utf8First = Lib.firstData := by kernel_rfl
theorem accept_laid : YtnhcaelapadhaaaGreatDoor.Rows.laid_unicode_utf8_acceptRanges = Lib.acceptData := by kernel_rfl
/-- The tables of utf8, and the length that bytealg takes. -/
theorem env_of {laid : List (String × DataW Unit)} {W : World} (hL : laidMet Tryz.prog laid W) (hS : W.ShapedOpen Tryz.prog) (h3 : ("unicode/utf8.first", Go.Pinned.utf8First) ∈ laid) (h4 : ("unicode/utf8.acceptRanges", YtnhcaelapadhaaaGreatDoor.Rows.laid_unicode_utf8_acceptRanges) ∈ laid) : Env W where
  size := by
    have hsome : (((begin Tryz.prog (fun _ _ => 0) default).world.heap[7]?).bind Obj.row?).isSome = true := by kernel_rfl
    have hlt : 7 < Tryz.prog.globals.size := of_decide_eq_true (by kernel_rfl)
    obtain ⟨⟨zero, t⟩, hz⟩ := Option.isSome_iff_exists.1 hsome
    obtain ⟨cs, hh, _⟩ := hS.1 _ zero t hlt hz
    exact (Array.getElem?_eq_some_iff.1 hh).1
  most := Tryz.laysM143.s1_3 W hS
  utf8 := utf8Tabs_of_reads { Tryz.lays260 with } ⟨by kernel_rfl, by kernel_rfl, by kernel_rfl, by kernel_rfl, by kernel_rfl, by kernel_rfl, by kernel_rfl⟩
    (by have := Lib.laidMet.reads hL h3; rwa [first_pinned] at this) (by have := Lib.laidMet.reads hL h4; rwa [accept_laid] at this)
end Go.Proofs.Sm

namespace Go.Proofs.Sm
open Go.RowKit Go.ChangeShapes Go.WideShapes Go.ChangeAt

section
variable {H : Type} {enc : TypeId × Value → H} {w : World} {base : Nat} {spare : Nat → Bool} {held : Bool}
theorem five_of {α : Type} {l : List α} (h : l.length = 5) : ∃ a b c d e, l = [a, b, c, d, e] := by
  rcases l with _ | ⟨a, _ | ⟨b, _ | ⟨c, _ | ⟨d, _ | ⟨e, _ | ⟨f, r⟩⟩⟩⟩⟩⟩
  all_goals (try (simp at h; done))
  exact ⟨a, b, c, d, e, rfl⟩
theorem result_of {cs : List Value} {fuel : Nat} {d : DataW H × List MemPlace} (h : DataW.trod enc Tryz.prog w base spare held fuel 25 cs = some d) :
    ∃ r A n c B m e, ResIs w r A n B m ∧ cs = [.int .i64 r.code, .string r.text, .slice A n c, .slice B m e, .int .i64 r.command] := by
  obtain ⟨xs, n, _, _, hlen, hxl, hf⟩ := DataW.trod_struct Tryz.underlying25 h
  have hc : Tryz.prog.cellsOf 25 = 5 := by kernel_rfl
  have cI : Tryz.prog.cellsOf 3 = 1 := by kernel_rfl
  have cS : Tryz.prog.cellsOf 9 = 1 := by kernel_rfl
  have cF : Tryz.prog.cellsOf 22 = 1 := by kernel_rfl
  have cL : Tryz.prog.cellsOf 23 = 1 := by kernel_rfl
  rw [hc] at hlen
  have hxl' : xs.length = 5 := hxl
  obtain ⟨a0, a1, a2, a3, a4, rfl⟩ := five_of hlen
  obtain ⟨y0, e0⟩ := at_some hxl' (show 0 < 5 by decide)
  obtain ⟨y1, e1⟩ := at_some hxl' (show 1 < 5 by decide)
  obtain ⟨y2, e2⟩ := at_some hxl' (show 2 < 5 by decide)
  obtain ⟨y3, e3⟩ := at_some hxl' (show 3 < 5 by decide)
  obtain ⟨y4, e4⟩ := at_some hxl' (show 4 < 5 by decide)
  have f0 : DataW.trod enc Tryz.prog w base spare held n 3 [a0] = some y0 := by
    have h := (hf 0 _ rfl).trans e0
    change DataW.trod enc _ w base spare held n 3 (List.take (Tryz.prog.cellsOf 3) (List.drop 0 [a0, a1, a2, a3, a4])) = some y0 at h
    rw [cI] at h
    exact h
  have f1 : DataW.trod enc Tryz.prog w base spare held n 9 [a1] = some y1 := by
    have h := (hf 1 _ rfl).trans e1
    change DataW.trod enc _ w base spare held n 9 (List.take (Tryz.prog.cellsOf 9) (List.drop 1 [a0, a1, a2, a3, a4])) = some y1 at h
    rw [cS] at h
    exact h
  have f2 : DataW.trod enc Tryz.prog w base spare held n 22 [a2] = some y2 := by
    have h := (hf 2 _ rfl).trans e2
    change DataW.trod enc _ w base spare held n 22 (List.take (Tryz.prog.cellsOf 22) (List.drop 2 [a0, a1, a2, a3, a4])) = some y2 at h
    rw [cF] at h
    exact h
  have f3 : DataW.trod enc Tryz.prog w base spare held n 23 [a3] = some y3 := by
    have h := (hf 3 _ rfl).trans e3
    change DataW.trod enc _ w base spare held n 23 (List.take (Tryz.prog.cellsOf 23) (List.drop 3 [a0, a1, a2, a3, a4])) = some y3 at h
    rw [cL] at h
    exact h
  have f4 : DataW.trod enc Tryz.prog w base spare held n 3 [a4] = some y4 := by
    have h := (hf 4 _ rfl).trans e4
    change DataW.trod enc _ w base spare held n 3 (List.take (Tryz.prog.cellsOf 3) (List.drop 4 [a0, a1, a2, a3, a4])) = some y4 at h
    rw [cI] at h
    exact h
  obtain ⟨n0, r0, z0⟩ := dec_int Tryz.underlying3 _ _ _ f0
  obtain ⟨s1, r1, z1⟩ := dec_string Tryz.underlying9 _ _ _ f1
  obtain ⟨l2, A, k2, c2, r2, _, _, z2⟩ := dec_files _ _ _ f2
  obtain ⟨l3, B, k3, c3, r3, _, _, z3⟩ := dec_looks _ _ _ f3
  obtain ⟨n4, r4, z4⟩ := dec_int Tryz.underlying3 _ _ _ f4
  cases r0; cases r1; cases r2; cases r3; cases r4
  exact ⟨⟨n0, s1, l2, l3, n4⟩, A, k2, c2, B, k3, c3, ⟨z0, z1, z2, z3, z4⟩, rfl⟩
end
theorem tab_of_reads {W : World} {name : String} {k : IntKind} {zs : List Int} {g : Nat} {t e : TypeId} {n : Nat} (hg : Tryz.prog.globalNamed name = some g) (hty : (Tryz.prog.globals[g]?).map (·.type) = some t)
    (ht : Tryz.prog.underlying t = some (.array n e)) (he : Tryz.prog.underlying e = some (.int k)) (hce : Tryz.prog.cellsOf e = 1) (hct : Tryz.prog.cellsOf t = n) (h : Lib.VarReads Tryz.prog W name (Lib.tabData k zs)) : Lib.TabIs Tryz.prog W name k zs := by
  obtain ⟨g', t', cs, fuel, p, hg', ht', hvar, hd⟩ := h
  obtain rfl := Option.some.inj (hg.symm.trans hg')
  obtain rfl := Option.some.inj (hty.symm.trans ht')
  unfold Lib.TabIs
  rw [hvar, ← Lib.cells_of_tab ht he hce hct hd]
theorem pow_laid : YtnhcaelapadhaaaGreatDoor.Rows.laid_internal_strconv_uint64pow10 = Lib.tabData (H := Unit) .u64 Lib.pow10Tab := by kernel_rfl
theorem env2_of {laid : List (String × DataW Unit)} {W : World} (hL : laidMet Tryz.prog laid W) (hS : W.ShapedOpen Tryz.prog) (h3 : ("unicode/utf8.first", Go.Pinned.utf8First) ∈ laid) (h4 : ("unicode/utf8.acceptRanges", YtnhcaelapadhaaaGreatDoor.Rows.laid_unicode_utf8_acceptRanges) ∈ laid)
    (h5 : ("internal/strconv.uint64pow10", YtnhcaelapadhaaaGreatDoor.Rows.laid_internal_strconv_uint64pow10) ∈ laid) : Env2 W where
  toEnv := env_of hL hS h3 h4
  pow := tab_of_reads (g := 1) (t := 166) (e := 139) (n := 20) (by kernel_rfl) (by kernel_rfl) Tryz.underlying166 Tryz.underlying139 (by kernel_rfl) (by kernel_rfl) (by have := Lib.laidMet.reads hL h5; rwa [pow_laid] at this)
/-- the cells of plain data -/
def flatD : Nat → DataW Unit → List Value
  | 0, _ => []
  | _ + 1, .lit (.int k n) => [.int k n]
  | f + 1, .agg l => l.flatMap (flatD f)
  | _, _ => []
/-- THE WITNESS's WORLD: the settled one, with plain tables laid. -/
noncomputable def tableWorld (os : Os) (tabs : List (Nat × DataW Unit)) : World :=
  let w0 := World.holding Tryz.prog os ⟨#[], #[], []⟩
  { w0 with heap := tabs.foldl (fun h t => h.modify t.1 fun
    | .cells _ ty frozen => .cells (flatD 4 t.2).toArray ty frozen
    | o => o) w0.heap }
end Go.Proofs.Sm

namespace Go.Proofs.Sm
open Go.RowKit

/-- a world that lays errors of package errors, each in a block of its own -/
noncomputable def errWorldE (w0 : World) (tp ts : TypeId) (errs : List (Nat × List UInt8)) : World :=
  { w0 with heap := errs.foldl (fun h e => (h.push (.cells #[.string ⟨e.2.toArray⟩] ts (0, 0))).modify e.1 fun
    | .cells _ ty frozen => .cells #[.iface tp (.pointer (some ⟨h.size, 0, none⟩))] ty frozen
    | o => o) w0.heap }
end Go.Proofs.Sm

namespace Go.Proofs.YtnhcaelapadhaaaGreatDoor.resread
open Go.ChangeShapes Go.WideShapes Go.ChangeAt Go.RowKit Go.Proofs.Sm

noncomputable def laidWorld (os : Os) : World := errWorldE (tableWorld os [(6, Rows.laid_unicode_utf8_first), (7, Rows.laid_unicode_utf8_acceptRanges), (1, Rows.laid_internal_strconv_uint64pow10), (4, Rows.laid_math_bits_deBruijn32tab), (5, Rows.laid_math_bits_deBruijn64tab)])
  184 186 [(3, [118, 97, 108, 117, 101, 32, 111, 117, 116, 32, 111, 102, 32, 114, 97, 110, 103, 101]), (2, [105, 110, 118, 97, 108, 105, 100, 32, 115, 121, 110, 116, 97, 120])]
theorem laid_met (os : Os) (args : Array Value) : laidMet Tryz.prog Rows.resultsReadMatchSpecRow.laid ((laidWorld os).forCall (fun _ _ => 0) ⟨#[], args, []⟩).memory :=
  (LaidIn.of_run (l := Rows.resultsReadMatchSpecRow.laid) (List.range 30) 8 (by kernel_rfl) (by kernel_rfl) (by kernel_rfl) (by kernel_rfl)).met
theorem reads (os : Os) {H : Type} (enc : TypeId × Value → H) : ∃ ds places, DataW.whole enc Tryz.prog ((laidWorld os).forCall (fun _ _ => 0) ⟨#[], #[.string ⟨#[]⟩], []⟩).memory Tryz.f3.params.toList Rows.resultsReadMatchSpecSpec.vars false #[.string ⟨#[]⟩].toList 8 = some (ds, [], places) :=
  ⟨[.lit (.string [])], [], by kernel_rfl⟩

set_option maxRecDepth 100000 in
theorem contract (H : Type) (enc : TypeId × Value → H) (W : World) (base : Nat) (args : Array Value) (ds gs : List (DataW H)) (before : List MemPlace)
    (hval : ∀ (j : Nat) t v, Tryz.f3.params[j]? = some t → args[j]? = some v → Value.okWide Tryz.prog W .any base t v)
    (hW : DataW.Whole enc Tryz.prog Tryz.f3.params.toList Rows.resultsReadMatchSpecSpec.vars false W args.toList ds gs before) (hE : Env2 W) :
    Calls Tryz.prog 3 args W fun e W' => ∃ v, e = .returned v ∧ Rows.resultsReadMatchSpecSpec.post enc Tryz.prog Tryz.f3 false true false false W args v W' := by
  have hW' := hW
  obtain ⟨p, q, hA0, hV, rfl, hfz, hnd⟩ := hW
  have hA : DataW.TrodAll enc Tryz.prog W 0 (fun _ => true) true Tryz.f3.params.toList args.toList ds p := hA0
  rw [Tryz.params3] at hA hval
  obtain ⟨v0, d0, hargs, rfl, h0⟩ := trodAll_one hA
  obtain rfl : args = #[v0] := by cases args; simp_all
  obtain ⟨rfl, rfl⟩ := trodVars_none hV
  have k0 := h0
  have lt0 : ∀ x ∈ p, x.block < W.heap.size := by obtain ⟨m, hm⟩ := k0; exact DataW.trod_lt m _ _ _ hm
  obtain ⟨s, rfl⟩ := okWide_string Tryz.underlying9 (hval 0 9 v0 rfl rfl)
  have hs : s.size ≤ maxLen := by
    obtain ⟨fuel', hf'⟩ := h0
    obtain ⟨s', e', _, z'⟩ := DataW.trod_string Tryz.underlying9 hf'
    have : s = s' := by simpa [Value.cells] using e'
    rw [this]; exact z'
  clear hA0
  refine (law_reads s W hE.toEnv hs).mono fun e W' ⟨he, bel⟩ => ?_
  subst he
  exact ⟨_, rfl, _, _, _, [], _, [], hW', trodAll_mk1 (shut_bool Tryz.underlying4 _), trodAll_cons_mk (Below.trod laidOut (by kernel_rfl) (of_decide_eq_true (by kernel_rfl)) k0 bel lt0) trodAll_mk0, rfl, bel.frame _, fun h => by cases h⟩

set_option maxRecDepth 100000 in
theorem lifted (os : Os) (started : os.Started) (H : Type) (enc : TypeId × Value → H) (F : Stop.Interp) :
    ReturnsInHanded {} Tryz.checked os 3 .any ((OpenSpec.ofChange Rows.resultsReadMatchSpecSpec).preRow enc Tryz.prog Tryz.f3 Rows.resultsReadMatchSpecRow.domain false Rows.resultsReadMatchSpecRow.laid) (((OpenSpec.ofChange Rows.resultsReadMatchSpecSpec).at F).post enc Tryz.prog Tryz.f3 false true false false) := by
  obtain ⟨d, places, hx⟩ := reads os enc
  refine returnsInHanded_of_row (C := Tryz.checked) (s := OpenSpec.ofChange Rows.resultsReadMatchSpecSpec) own started (by kernel_rfl) Tryz.func3
    (witness_row_atRef (enc := enc) (C := Tryz.checked) false (laidWorld os) #[.string ⟨#[]⟩] rfl (by kernel_rfl) (by kernel_rfl) (by kernel_rfl)
      (OpenSpec.preRow_of_cond 8 hx (by kernel_rfl) (fun k hk => by cases hk) (by kernel_rfl) (laid_met os _))) ?_
  intro W base args ds gs before hval hW _ _ _ hL hS _
  exact contract H enc W base args ds gs before hval hW (env2_of hL hS (by simp [Rows.resultsReadMatchSpecRow, Rows.laid_unicode_utf8_first]) (by simp [Rows.resultsReadMatchSpecRow]) (by simp [Rows.resultsReadMatchSpecRow]))

theorem said : Rows.ResultsReadMatchSpecSaid :=
  OpenClaim.holds_of_cond 3 Tryz.f3 rfl rfl rfl rfl rfl rfl rfl ⟨rfl, rfl, rfl, rfl, rfl⟩ rfl rfl rfl rfl rfl (by kernel_rfl) Tryz.func3 closed
    (of_decide_eq_true (by as_aux_lemma => kernel_rfl)) (by unfold Func.isWrapper; first | (rw [if_pos (by decide +kernel)]; kernel_rfl) | (rw [if_neg (by decide +kernel)]; exact ⟨rfl, rfl⟩))
    (fun os started H enc _ F => by rw [OpenClaim.pre_eq_preRow]; exact lifted os started H enc F)

theorem plain (f : FuncId) (fn : Func) (hf : Tryz.pinned.checked.prog.funcNamed Rows.resultsReadMatchSpecRow.func = some f) (hfn : Tryz.pinned.checked.prog.funcs[f]? = some fn) :
    true = Tryz.pinned.checked.prog.looks [] ∧ ∀ (j : Nat) t, fn.params[j]? = some t → Tryz.pinned.checked.prog.wantsStandIn t = false := by
  obtain rfl : f = 3 := Option.some.inj ((show Tryz.prog.funcNamed Rows.resultsReadMatchSpecRow.func = some 3 by kernel_rfl).symm.trans hf) |>.symm
  obtain rfl : fn = Tryz.f3 := (Option.some.inj (Tryz.func3.symm.trans hfn)).symm
  refine ⟨by kernel_rfl, fun j t ht => ?_⟩
  rw [Tryz.params3] at ht
  have hm : t = 9 := by simpa using Array.mem_of_getElem? ht
  subst hm
  exact (show Tryz.prog.wantsStandIn 9 = false by kernel_rfl)

/-- The card. -/
theorem card : Rows.ResultsReadMatchSpecCardSaid :=
  Claim7.holds_tied_plain_at .later [] _ _ _ _ said (fun _ h => by cases h) (by as_aux_lemma => kernel_rfl) (fun _ h => by cases h) resultsReadMatchSpec_row_tie rfl ⟨rfl, rfl⟩ (by as_aux_lemma => kernel_rfl) rfl plain (by as_aux_lemma => kernel_rfl)
end Go.Proofs.YtnhcaelapadhaaaGreatDoor.resread
