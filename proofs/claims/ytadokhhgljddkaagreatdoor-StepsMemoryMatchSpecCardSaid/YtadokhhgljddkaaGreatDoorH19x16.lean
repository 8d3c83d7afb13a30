/- Joined and Pruned are as specified, with all errors: the given statement, for all arguments; no condition. -/
import Derived.Test.YtadokhhgljddkaaGreatDoorH19x15
import Derived.Test.YtadokhhgljddkaaGreatDoorCards
import Derived.Test.YtadokhhgljddkaaGreatDoorTie
import Derived.Test.YtadokhhgljddkaaGreatDoorH19x13
import Derived.OpenShut
import Derived.ShutString
import Derived.ChangeOld
import Derived.Deep.DeepHandedRow
import Derived.Deep.DeepWitnessRowRef
import Derived.Lib.LaidU8
import Derived.Lib.LaidTab
import Derived.Test.YtadokhhgljddkaaGreatDoorH19x3
import Derived.Lib.LaidIn
import Derived.Test.YtadokhhgljddkaaGreatDoorH19x7
import Derived.Test.YtadokhhgljddkaaGreatDoorH19x10
import Derived.Test.YtadokhhgljddkaaGreatDoorCardZRC19
namespace Go.Proofs.Sm
open Go.RowKit

theorem joinedErr_parts {la lb : List MemoryV} (h : joinedErr la lb = 0) : checkMemoryS la = 0 ∧ checkMemoryS lb = 0 := by
  unfold joinedErr at h
  split at h
  · rename_i h1; exact absurd h h1
  rename_i h1
  split at h
  · rename_i h2; exact absurd h h2
  rename_i h2
  exact ⟨by simpa using h1, by simpa using h2⟩
theorem joined_both {la lb : List MemoryV} {w1 w2 : World} {v1 v2 : Value} (hbad1 : joinedErr la lb ≠ 0 → v1 = .slice none 0 0) (hbad2 : joinedErr la lb ≠ 0 → v2 = .slice none 0 0)
    (hg1 : joinedErr la lb = 0 → ∃ A n c out, v1 = .slice A n c ∧ n ≤ c ∧ c ≤ maxLen ∧ JoinedIs la lb out ∧ Sl w1 (Lt w1.heap.size) A n out) (hb : Below w1.heap.size w1 w2)
    (hg2 : joinedErr la lb = 0 → ∃ A n c out, v2 = .slice A n c ∧ n ≤ c ∧ c ≤ maxLen ∧ JoinedIs la lb out ∧ Sl w2 (Lt w2.heap.size) A n out) :
    ∃ (A1 A2 : Option Addr) (k c1 c2 : Nat) (m : List MemoryV), v1 = .slice A1 k c1 ∧ v2 = .slice A2 k c2 ∧ Sl w2 (Lt w2.heap.size) A1 k m ∧ Sl w2 (Lt w2.heap.size) A2 k m := by
  by_cases h0 : joinedErr la lb = 0
  · obtain ⟨A1, n1, c1, out1, rfl, _, _, j1, s1⟩ := hg1 h0
    obtain ⟨A2, n2, c2, out2, rfl, _, _, j2, s2⟩ := hg2 h0
    obtain rfl := j1.unique (joinedErr_parts h0).1 (joinedErr_parts h0).2 j2
    obtain rfl : n1 = n2 := by rw [← s1.1, ← s2.1]
    exact ⟨A1, A2, n1, c1, c2, out1, rfl, rfl, sl_call s1 hb (Nat.le_refl _), s2⟩
  · exact ⟨none, none, 0, 0, 0, [], hbad1 h0, hbad2 h0, Sl.nil, Sl.nil⟩
theorem pruned_both {l : List RuleV} {ms : List MemoryV} {w1 w2 : World} {v1 v2 : Value} (hbad1 : prunedErr l ms ≠ 0 → v1 = .slice none 0 0) (hbad2 : prunedErr l ms ≠ 0 → v2 = .slice none 0 0)
    (hg1 : prunedErr l ms = 0 → ∃ A n c, v1 = .slice A n c ∧ n ≤ c ∧ c ≤ maxLen ∧ Sl w1 (Lt w1.heap.size) A n (prunedS l ms)) (hb : Below w1.heap.size w1 w2)
    (hg2 : prunedErr l ms = 0 → ∃ A n c, v2 = .slice A n c ∧ n ≤ c ∧ c ≤ maxLen ∧ Sl w2 (Lt w2.heap.size) A n (prunedS l ms)) :
    ∃ (A1 A2 : Option Addr) (k c1 c2 : Nat) (m : List MemoryV), v1 = .slice A1 k c1 ∧ v2 = .slice A2 k c2 ∧ Sl w2 (Lt w2.heap.size) A1 k m ∧ Sl w2 (Lt w2.heap.size) A2 k m := by
  by_cases h0 : prunedErr l ms = 0
  · obtain ⟨A1, n1, c1, rfl, _, _, s1⟩ := hg1 h0
    obtain ⟨A2, n2, c2, rfl, _, _, s2⟩ := hg2 h0
    obtain rfl : n1 = n2 := by rw [← s1.1, ← s2.1]
    exact ⟨A1, A2, n1, c1, c2, _, rfl, rfl, sl_call s1 hb (Nat.le_refl _), s2⟩
  · exact ⟨none, none, 0, 0, 0, [], hbad1 h0, hbad2 h0, Sl.nil, Sl.nil⟩
set_option maxHeartbeats 1000000 in
set_option maxRecDepth 100000 in
theorem law_memory (A B C : Option Addr) (n c m d p q : Nat) (l : List RuleV) (la lb : List MemoryV) (w : World) (hE : Env2 w) (hsl : Sl w (Lt w.heap.size) A n l) (ha : Sl w (Lt w.heap.size) B m la) (hb : Sl w (Lt w.heap.size) C p lb) :
    Calls Tryz.prog 4 #[.slice A n c, .slice B m d, .slice C p q] w fun e w' => e = .returned (.bool true) ∧ Below w.heap.size w w' := by
  go_enter Tryz.func4, Tryz.ntmps4
  go_wp2_with fail
  refine (steps_Joined B C m d p q la lb w hE.toEnv ha hb).mono ?_
  rintro e w1 ⟨v1, rfl, hbad1, hgood1, b1⟩
  go_wp2_with fail
  refine (ref6_Joined B C m d p q la lb w1 (hE.then_ b1).toEnv (sl_call ha b1 (Nat.le_refl _)) (sl_call hb b1 (Nat.le_refl _))).mono ?_
  rintro e w2 ⟨v2, rfl, hbad2, hgood2, b2⟩
  have b12 := fr_call b1 b2
  obtain ⟨A1, A2, k, c1, c2, m1, rfl, rfl, s1, s2⟩ := joined_both hbad1 hbad2 hgood1 b2 hgood2
  clear hbad1 hbad2 hgood1 hgood2 b1 b2
  go_wp2_with fail
  refine (steps_Pruned A B n c m d l la w2 (hE.then_ b12) (sl_call hsl b12 (Nat.le_refl _)) (sl_call ha b12 (Nat.le_refl _))).mono ?_
  rintro e w3 ⟨v3, rfl, hbad3, hgood3, b3⟩
  have b13 := fr_call b12 b3
  go_wp2_with fail
  refine (ref6_Pruned A B n c m d l la w3 (hE.then_ b13) (sl_call hsl b13 (Nat.le_refl _)) (sl_call ha b13 (Nat.le_refl _))).mono ?_
  rintro e w4 ⟨v4, rfl, hbad4, hgood4, b4⟩
  obtain ⟨A3, A4, k2, c3, c4, m2, rfl, rfl, s3, s4⟩ := pruned_both hbad3 hbad4 hgood3 b4 hgood4
  have b34 := fr_call b3 b4
  have b14 := fr_call b13 b4
  have t1 := sl_call s1 b34 (Nat.le_refl _)
  have t2 := sl_call s2 b34 (Nat.le_refl _)
  clear hbad3 hbad4 hgood3 hgood4 s1 s2 b3 b4 b12 b13
  generalize joinedErr la lb = f
  generalize prunedErr l la = f2
  go_wp2_with fail
  refine (ref6_SameMemory A1 A2 k c1 c2 m1 w4 t1 t2).mono ?_
  rintro e w5 ⟨rfl, b5⟩
  have b15 := fr_call b14 b5
  go_wp2_with fail
  refine (ref6_SameMemory A3 A4 k2 c3 c4 m2 w5 (sl_call s3 b5 (Nat.le_refl _)) (sl_call s4 b5 (Nat.le_refl _))).mono ?_
  rintro e w6 ⟨rfl, b6⟩
  have b16 := fr_call b15 b6
  go_wp2_with fail
  refine (law6_awake w6 (hE.then_ b16).toEnv).mono ?_
  rintro e w7 ⟨rfl, b7⟩
  go_wp2
  go_ret
  exact ⟨rfl, fr_call b16 b7⟩
end Go.Proofs.Sm

namespace Go.Proofs.Sm
open Go.RowKit Go.ChangeShapes Go.WideShapes Go.ChangeAt

theorem own : ownKnob Tryz.prog.godebug = none := by kernel_rfl
theorem laidOut : laidOutB Tryz.prog = true := by kernel_rfl

section
variable {H : Type} {enc : TypeId × Value → H} {w : World} {base : Nat} {spare : Nat → Bool} {held : Bool}
theorem at_some {α : Type} {xs : List α} {n i : Nat} (h : xs.length = n) (hi : i < n) : ∃ y, xs[i]? = some y := ⟨xs[i]'(by omega), List.getElem?_eq_getElem _⟩
theorem three_of {α : Type} {l : List α} (h : l.length = 3) : ∃ a b c, l = [a, b, c] := by
  rcases l with _ | ⟨a, _ | ⟨b, _ | ⟨c, _ | ⟨e, r⟩⟩⟩⟩
  · simp at h
  · simp at h
  · simp at h
  · exact ⟨a, b, c, rfl⟩
  · simp at h
theorem dec_look : Dec enc Tryz.prog w base spare held 102 Look := fun fuel cs d h => by
  obtain ⟨xs, n, _, _, hlen, hxl, hf⟩ := DataW.trod_struct Tryz.underlying102 h
  have hc : Tryz.prog.cellsOf 102 = 3 := by kernel_rfl
  have cS : Tryz.prog.cellsOf 9 = 1 := by kernel_rfl
  have cB : Tryz.prog.cellsOf 4 = 1 := by kernel_rfl
  rw [hc] at hlen
  have hxl' : xs.length = 3 := hxl
  obtain ⟨a, b, c, rfl⟩ := three_of hlen
  · -- the three cells
    obtain ⟨y0, e0⟩ := at_some hxl' (show 0 < 3 by decide)
    obtain ⟨y1, e1⟩ := at_some hxl' (show 1 < 3 by decide)
    obtain ⟨y2, e2⟩ := at_some hxl' (show 2 < 3 by decide)
    have f0 : DataW.trod enc Tryz.prog w base spare held n 9 [a] = some y0 := by
      have h := (hf 0 _ rfl).trans e0
      change DataW.trod enc _ w base spare held n 9 (List.take (Tryz.prog.cellsOf 9) (List.drop 0 [a, b, c])) = some y0 at h
      rw [cS] at h
      exact h
    have f1 : DataW.trod enc Tryz.prog w base spare held n 9 [b] = some y1 := by
      have h := (hf 1 _ rfl).trans e1
      change DataW.trod enc _ w base spare held n 9 (List.take (Tryz.prog.cellsOf 9) (List.drop 1 [a, b, c])) = some y1 at h
      rw [cS] at h
      exact h
    have f2 : DataW.trod enc Tryz.prog w base spare held n 4 [c] = some y2 := by
      have h := (hf 2 _ rfl).trans e2
      change DataW.trod enc _ w base spare held n 4 (List.take (Tryz.prog.cellsOf 4) (List.drop 2 [a, b, c])) = some y2 at h
      rw [cB] at h
      exact h
    obtain ⟨s0, h0, _, z0⟩ := DataW.trod_string Tryz.underlying9 f0
    obtain ⟨s1, h1, _, z1⟩ := DataW.trod_string Tryz.underlying9 f1
    obtain ⟨r, h2, _⟩ := DataW.trod_bool Tryz.underlying4 f2
    cases h0; cases h1; cases h2
    exact ⟨⟨s0, s1, r⟩, rfl, z0, z1⟩
theorem dec_bytes : Dec enc Tryz.prog w base spare held 112 (List UInt8) := dec_slice Tryz.underlying112 (by kernel_rfl) (by decide) (dec_u8 Tryz.underlying5)
theorem dec_file : Dec enc Tryz.prog w base spare held 151 FileV := fun fuel cs d h => by
  obtain ⟨xs, n, _, _, hlen, hxl, hf⟩ := DataW.trod_struct Tryz.underlying151 h
  have hc : Tryz.prog.cellsOf 151 = 3 := by kernel_rfl
  have cS : Tryz.prog.cellsOf 9 = 1 := by kernel_rfl
  have cB : Tryz.prog.cellsOf 4 = 1 := by kernel_rfl
  have cL : Tryz.prog.cellsOf 112 = 1 := by kernel_rfl
  rw [hc] at hlen
  have hxl' : xs.length = 3 := hxl
  obtain ⟨a, b, c, rfl⟩ := three_of hlen
  · -- the three cells
    obtain ⟨y0, e0⟩ := at_some hxl' (show 0 < 3 by decide)
    obtain ⟨y1, e1⟩ := at_some hxl' (show 1 < 3 by decide)
    obtain ⟨y2, e2⟩ := at_some hxl' (show 2 < 3 by decide)
    have f0 : DataW.trod enc Tryz.prog w base spare held n 9 [a] = some y0 := by
      have h := (hf 0 _ rfl).trans e0
      change DataW.trod enc _ w base spare held n 9 (List.take (Tryz.prog.cellsOf 9) (List.drop 0 [a, b, c])) = some y0 at h
      rw [cS] at h
      exact h
    have f1 : DataW.trod enc Tryz.prog w base spare held n 4 [b] = some y1 := by
      have h := (hf 1 _ rfl).trans e1
      change DataW.trod enc _ w base spare held n 4 (List.take (Tryz.prog.cellsOf 4) (List.drop 1 [a, b, c])) = some y1 at h
      rw [cB] at h
      exact h
    have f2 : DataW.trod enc Tryz.prog w base spare held n 112 [c] = some y2 := by
      have h := (hf 2 _ rfl).trans e2
      change DataW.trod enc _ w base spare held n 112 (List.take (Tryz.prog.cellsOf 112) (List.drop 2 [a, b, c])) = some y2 at h
      rw [cL] at h
      exact h
    obtain ⟨s0, h0, _, z0⟩ := DataW.trod_string Tryz.underlying9 f0
    obtain ⟨r, h1, _⟩ := DataW.trod_bool Tryz.underlying4 f1
    obtain ⟨bs, A, k, m, h2, q1, q2, q3⟩ := dec_bytes _ _ _ f2
    cases h0; cases h1; cases h2
    exact ⟨⟨s0, r, bs⟩, z0, A, k, m, rfl, q1, q2, q3⟩
theorem dec_looks : Dec enc Tryz.prog w base spare held 63 (List Look) := dec_slice Tryz.underlying63 (by kernel_rfl) (by decide) dec_look
theorem dec_files : Dec enc Tryz.prog w base spare held 64 (List FileV) := dec_slice Tryz.underlying64 (by kernel_rfl) (by decide) dec_file
/-- a slice argument, as a value -/
theorem arg_slice {α : Type} [Rep α] {t : TypeId} {v : Value} {d : DataW H} {p : List MemPlace} (hd : Dec enc Tryz.prog w base spare held t (List α)) (hv : ∃ a n c, v = .slice a n c) (h : DataW.Trod enc Tryz.prog w base spare held t v d p) :
    ∃ (A : Option Addr) (n c : Nat) (l : List α), v = .slice A n c ∧ Sl w (Lt w.heap.size) A n l := by
  obtain ⟨a, n, c, rfl⟩ := hv
  obtain ⟨fuel, hf⟩ := h
  obtain ⟨l, A, n', c', e, _, _, hs⟩ := hd _ _ _ hf
  simp [Value.cells] at e
  obtain ⟨rfl, rfl, rfl⟩ := e
  exact ⟨_, _, _, l, rfl, hs⟩
end
theorem first_pinned : Go.Pinned.utf8First = Lib.firstData := by kernel_rfl
theorem accept_laid : YtadokhhgljddkaaGreatDoor.Rows.laid_unicode_utf8_acceptRanges = Lib.acceptData := by kernel_rfl
/-- The tables of utf8, and the length that bytealg takes. -/
theorem env_of {laid : List (String × DataW Unit)} {W : World} (hL : laidMet Tryz.prog laid W) (hS : W.ShapedOpen Tryz.prog) (h3 : ("unicode/utf8.first", Go.Pinned.utf8First) ∈ laid) (h4 : ("unicode/utf8.acceptRanges", YtadokhhgljddkaaGreatDoor.Rows.laid_unicode_utf8_acceptRanges) ∈ laid) : Env W where
  size := by
    have hsome : (((begin Tryz.prog (fun _ _ => 0) default).world.heap[7]?).bind Obj.row?).isSome = true := by kernel_rfl
    have hlt : 7 < Tryz.prog.globals.size := of_decide_eq_true (by kernel_rfl)
    obtain ⟨⟨zero, t⟩, hz⟩ := Option.isSome_iff_exists.1 hsome
    obtain ⟨cs, hh, _⟩ := hS.1 _ zero t hlt hz
    exact (Array.getElem?_eq_some_iff.1 hh).1
  most := Tryz.laysM143.s1_3 W hS
  utf8 := utf8Tabs_of_reads { Tryz.lays260 with } ⟨by kernel_rfl, by kernel_rfl, by kernel_rfl, by kernel_rfl, by kernel_rfl, by kernel_rfl, by kernel_rfl⟩
    (by have := Lib.laidMet.reads hL h3; rwa [first_pinned] at this) (by have := Lib.laidMet.reads hL h4; rwa [accept_laid] at this)
end Go.Proofs.Sm

namespace Go.Proofs.Sm
open Go.RowKit Go.ChangeShapes Go.WideShapes Go.ChangeAt

section
variable {H : Type} {enc : TypeId × Value → H} {w : World} {base : Nat} {spare : Nat → Bool} {held : Bool}
theorem five_of {α : Type} {l : List α} (h : l.length = 5) : ∃ a b c d e, l = [a, b, c, d, e] := by
  rcases l with _ | ⟨a, _ | ⟨b, _ | ⟨c, _ | ⟨d, _ | ⟨e, _ | ⟨f, r⟩⟩⟩⟩⟩⟩
  all_goals (try (simp at h; done))
  exact ⟨a, b, c, d, e, rfl⟩
theorem result_of {cs : List Value} {fuel : Nat} {d : DataW H × List MemPlace} (h : DataW.trod enc Tryz.prog w base spare held fuel 66 cs = some d) :
    ∃ r A n c B m e, ResIs w r A n B m ∧ cs = [.int .i64 r.code, .string r.text, .slice A n c, .slice B m e, .int .i64 r.command] := by
  obtain ⟨xs, n, _, _, hlen, hxl, hf⟩ := DataW.trod_struct Tryz.underlying66 h
  have hc : Tryz.prog.cellsOf 66 = 5 := by kernel_rfl
  have cI : Tryz.prog.cellsOf 3 = 1 := by kernel_rfl
  have cS : Tryz.prog.cellsOf 9 = 1 := by kernel_rfl
  have cF : Tryz.prog.cellsOf 64 = 1 := by kernel_rfl
  have cL : Tryz.prog.cellsOf 63 = 1 := by kernel_rfl
  rw [hc] at hlen
  have hxl' : xs.length = 5 := hxl
  obtain ⟨a0, a1, a2, a3, a4, rfl⟩ := five_of hlen
  obtain ⟨y0, e0⟩ := at_some hxl' (show 0 < 5 by decide)
  obtain ⟨y1, e1⟩ := at_some hxl' (show 1 < 5 by decide)
  obtain ⟨y2, e2⟩ := at_some hxl' (show 2 < 5 by decide)
  obtain ⟨y3, e3⟩ := at_some hxl' (show 3 < 5 by decide)
  obtain ⟨y4, e4⟩ := at_some hxl' (show 4 < 5 by decide)
  have f0 : DataW.trod enc Tryz.prog w base spare held n 3 [a0] = some y0 := by
    have h := (hf 0 _ rfl).trans e0
    change DataW.trod enc _ w base spare held n 3 (List.take (Tryz.prog.cellsOf 3) (List.drop 0 [a0, a1, a2, a3, a4])) = some y0 at h
    rw [cI] at h
    exact h
  have f1 : DataW.trod enc Tryz.prog w base spare held n 9 [a1] = some y1 := by
    have h := (hf 1 _ rfl).trans e1
    change DataW.trod enc _ w base spare held n 9 (List.take (Tryz.prog.cellsOf 9) (List.drop 1 [a0, a1, a2, a3, a4])) = some y1 at h
    rw [cS] at h
    exact h
  have f2 : DataW.trod enc Tryz.prog w base spare held n 64 [a2] = some y2 := by
    have h := (hf 2 _ rfl).trans e2
    change DataW.trod enc _ w base spare held n 64 (List.take (Tryz.prog.cellsOf 64) (List.drop 2 [a0, a1, a2, a3, a4])) = some y2 at h
    rw [cF] at h
    exact h
  have f3 : DataW.trod enc Tryz.prog w base spare held n 63 [a3] = some y3 := by
    have h := (hf 3 _ rfl).trans e3
    change DataW.trod enc _ w base spare held n 63 (List.take (Tryz.prog.cellsOf 63) (List.drop 3 [a0, a1, a2, a3, a4])) = some y3 at h
    rw [cL] at h
    exact h
  have f4 : DataW.trod enc Tryz.prog w base spare held n 3 [a4] = some y4 := by
    have h := (hf 4 _ rfl).trans e4
    change DataW.trod enc _ w base spare held n 3 (List.take (Tryz.prog.cellsOf 3) (List.drop 4 [a0, a1, a2, a3, a4])) = some y4 at h
    rw [cI] at h
    exact h
  obtain ⟨n0, r0, z0⟩ := dec_int Tryz.underlying3 _ _ _ f0
  obtain ⟨s1, r1, z1⟩ := dec_string Tryz.underlying9 _ _ _ f1
  obtain ⟨l2, A, k2, c2, r2, _, _, z2⟩ := dec_files _ _ _ f2
  obtain ⟨l3, B, k3, c3, r3, _, _, z3⟩ := dec_looks _ _ _ f3
  obtain ⟨n4, r4, z4⟩ := dec_int Tryz.underlying3 _ _ _ f4
  cases r0; cases r1; cases r2; cases r3; cases r4
  exact ⟨⟨n0, s1, l2, l3, n4⟩, A, k2, c2, B, k3, c3, ⟨z0, z1, z2, z3, z4⟩, rfl⟩
end
theorem tab_of_reads {W : World} {name : String} {k : IntKind} {zs : List Int} {g : Nat} {t e : TypeId} {n : Nat} (hg : Tryz.prog.globalNamed name = some g) (hty : (Tryz.prog.globals[g]?).map (·.type) = some t)
    (ht : Tryz.prog.underlying t = some (.array n e)) (he : Tryz.prog.underlying e = some (.int k)) (hce : Tryz.prog.cellsOf e = 1) (hct : Tryz.prog.cellsOf t = n) (h : Lib.VarReads Tryz.prog W name (Lib.tabData k zs)) : Lib.TabIs Tryz.prog W name k zs := by
  obtain ⟨g', t', cs, fuel, p, hg', ht', hvar, hd⟩ := h
  obtain rfl := Option.some.inj (hg.symm.trans hg')
  obtain rfl := Option.some.inj (hty.symm.trans ht')
  unfold Lib.TabIs
  rw [hvar, ← Lib.cells_of_tab ht he hce hct hd]
theorem pow_laid : YtadokhhgljddkaaGreatDoor.Rows.laid_internal_strconv_uint64pow10 = Lib.tabData (H := Unit) .u64 Lib.pow10Tab := by kernel_rfl
theorem env2_of {laid : List (String × DataW Unit)} {W : World} (hL : laidMet Tryz.prog laid W) (hS : W.ShapedOpen Tryz.prog) (h3 : ("unicode/utf8.first", Go.Pinned.utf8First) ∈ laid) (h4 : ("unicode/utf8.acceptRanges", YtadokhhgljddkaaGreatDoor.Rows.laid_unicode_utf8_acceptRanges) ∈ laid)
    (h5 : ("internal/strconv.uint64pow10", YtadokhhgljddkaaGreatDoor.Rows.laid_internal_strconv_uint64pow10) ∈ laid) : Env2 W where
  toEnv := env_of hL hS h3 h4
  pow := tab_of_reads (g := 3) (t := 222) (e := 135) (n := 20) (by kernel_rfl) (by kernel_rfl) Tryz.underlying222 Tryz.underlying135 (by kernel_rfl) (by kernel_rfl) (by have := Lib.laidMet.reads hL h5; rwa [pow_laid] at this)
/-- the cells of plain data -/
def flatD : Nat → DataW Unit → List Value
  | 0, _ => []
  | _ + 1, .lit (.int k n) => [.int k n]
  | f + 1, .agg l => l.flatMap (flatD f)
  | _, _ => []
/-- THE WITNESS's WORLD: the settled one, with plain tables laid. -/
noncomputable def tableWorld (os : Os) (tabs : List (Nat × DataW Unit)) : World :=
  let w0 := World.holding Tryz.prog os ⟨#[], #[], []⟩
  { w0 with heap := tabs.foldl (fun h t => h.modify t.1 fun
    | .cells _ ty frozen => .cells (flatD 4 t.2).toArray ty frozen
    | o => o) w0.heap }
end Go.Proofs.Sm

namespace Go.Proofs.Sm
open Go.RowKit Go.ChangeShapes Go.WideShapes Go.ChangeAt

section
variable {H : Type} {enc : TypeId × Value → H} {w : World} {base : Nat} {spare : Nat → Bool} {held : Bool}
theorem two_of {α : Type} {l : List α} (h : l.length = 2) : ∃ a b, l = [a, b] := by
  rcases l with _ | ⟨a, _ | ⟨b, _ | ⟨c, r⟩⟩⟩
  all_goals (try (simp at h; done))
  exact ⟨a, b, rfl⟩
theorem six_of {α : Type} {l : List α} (h : l.length = 6) : ∃ a b c d e f, l = [a, b, c, d, e, f] := by
  rcases l with _ | ⟨a, _ | ⟨b, _ | ⟨c, _ | ⟨d, _ | ⟨e, _ | ⟨f, _ | ⟨g, r⟩⟩⟩⟩⟩⟩⟩
  all_goals (try (simp at h; done))
  exact ⟨a, b, c, d, e, f, rfl⟩
theorem dec_var : Dec enc Tryz.prog w base spare held 146 VarV := fun fuel cs d h => by
  obtain ⟨xs, n, _, _, hlen, hxl, hf⟩ := DataW.trod_struct Tryz.underlying146 h
  have hc : Tryz.prog.cellsOf 146 = 2 := by kernel_rfl
  have cS : Tryz.prog.cellsOf 9 = 1 := by kernel_rfl
  rw [hc] at hlen
  have hxl' : xs.length = 2 := hxl
  obtain ⟨a, b, rfl⟩ := two_of hlen
  · -- the two cells
    obtain ⟨y0, e0⟩ := at_some hxl' (show 0 < 2 by decide)
    obtain ⟨y1, e1⟩ := at_some hxl' (show 1 < 2 by decide)
    have f0 : DataW.trod enc Tryz.prog w base spare held n 9 [a] = some y0 := by
      have h := (hf 0 _ rfl).trans e0
      change DataW.trod enc _ w base spare held n 9 (List.take (Tryz.prog.cellsOf 9) (List.drop 0 [a, b])) = some y0 at h
      rw [cS] at h
      exact h
    have f1 : DataW.trod enc Tryz.prog w base spare held n 9 [b] = some y1 := by
      have h := (hf 1 _ rfl).trans e1
      change DataW.trod enc _ w base spare held n 9 (List.take (Tryz.prog.cellsOf 9) (List.drop 1 [a, b])) = some y1 at h
      rw [cS] at h
      exact h
    obtain ⟨s0, h0, _, z0⟩ := DataW.trod_string Tryz.underlying9 f0
    obtain ⟨s1, h1, _, z1⟩ := DataW.trod_string Tryz.underlying9 f1
    cases h0; cases h1
    exact ⟨⟨s0, s1⟩, rfl, z0, z1⟩
theorem dec_strs : Dec enc Tryz.prog w base spare held 23 (List ByteArray) := dec_slice Tryz.underlying23 (by kernel_rfl) (by decide) (dec_string Tryz.underlying9)
theorem dec_rows : Dec enc Tryz.prog w base spare held 46 (List (List ByteArray)) := dec_slice Tryz.underlying46 (by kernel_rfl) (by decide) dec_strs
theorem dec_vars : Dec enc Tryz.prog w base spare held 47 (List VarV) := dec_slice Tryz.underlying47 (by kernel_rfl) (by decide) dec_var
theorem action_of {cs : List Value} {fuel : Nat} {d : DataW H × List MemPlace} (h : DataW.trod enc Tryz.prog w base spare held fuel 49 cs = some d) :
    ∃ a A n n' B m m' C p p' D q q', ActIs w a A n B m C p D q ∧ cs = [.string a.tool, .slice A n n', .slice B m m', .slice C p p', .slice D q q', .int .i64 a.time] := by
  obtain ⟨xs, n, _, _, hlen, hxl, hf⟩ := DataW.trod_struct Tryz.underlying49 h
  have hc : Tryz.prog.cellsOf 49 = 6 := by kernel_rfl
  have cI : Tryz.prog.cellsOf 3 = 1 := by kernel_rfl
  have cS : Tryz.prog.cellsOf 9 = 1 := by kernel_rfl
  have cR : Tryz.prog.cellsOf 46 = 1 := by kernel_rfl
  have cV : Tryz.prog.cellsOf 47 = 1 := by kernel_rfl
  have cL : Tryz.prog.cellsOf 23 = 1 := by kernel_rfl
  rw [hc] at hlen
  have hxl' : xs.length = 6 := hxl
  obtain ⟨a0, a1, a2, a3, a4, a5, rfl⟩ := six_of hlen
  obtain ⟨y0, e0⟩ := at_some hxl' (show 0 < 6 by decide)
  obtain ⟨y1, e1⟩ := at_some hxl' (show 1 < 6 by decide)
  obtain ⟨y2, e2⟩ := at_some hxl' (show 2 < 6 by decide)
  obtain ⟨y3, e3⟩ := at_some hxl' (show 3 < 6 by decide)
  obtain ⟨y4, e4⟩ := at_some hxl' (show 4 < 6 by decide)
  obtain ⟨y5, e5⟩ := at_some hxl' (show 5 < 6 by decide)
  have f0 : DataW.trod enc Tryz.prog w base spare held n 9 [a0] = some y0 := by
    have h := (hf 0 _ rfl).trans e0
    change DataW.trod enc _ w base spare held n 9 (List.take (Tryz.prog.cellsOf 9) (List.drop 0 [a0, a1, a2, a3, a4, a5])) = some y0 at h
    rw [cS] at h
    exact h
  have f1 : DataW.trod enc Tryz.prog w base spare held n 46 [a1] = some y1 := by
    have h := (hf 1 _ rfl).trans e1
    change DataW.trod enc _ w base spare held n 46 (List.take (Tryz.prog.cellsOf 46) (List.drop 1 [a0, a1, a2, a3, a4, a5])) = some y1 at h
    rw [cR] at h
    exact h
  have f2 : DataW.trod enc Tryz.prog w base spare held n 47 [a2] = some y2 := by
    have h := (hf 2 _ rfl).trans e2
    change DataW.trod enc _ w base spare held n 47 (List.take (Tryz.prog.cellsOf 47) (List.drop 2 [a0, a1, a2, a3, a4, a5])) = some y2 at h
    rw [cV] at h
    exact h
  have f3 : DataW.trod enc Tryz.prog w base spare held n 23 [a3] = some y3 := by
    have h := (hf 3 _ rfl).trans e3
    change DataW.trod enc _ w base spare held n 23 (List.take (Tryz.prog.cellsOf 23) (List.drop 3 [a0, a1, a2, a3, a4, a5])) = some y3 at h
    rw [cL] at h
    exact h
  have f4 : DataW.trod enc Tryz.prog w base spare held n 47 [a4] = some y4 := by
    have h := (hf 4 _ rfl).trans e4
    change DataW.trod enc _ w base spare held n 47 (List.take (Tryz.prog.cellsOf 47) (List.drop 4 [a0, a1, a2, a3, a4, a5])) = some y4 at h
    rw [cV] at h
    exact h
  have f5 : DataW.trod enc Tryz.prog w base spare held n 3 [a5] = some y5 := by
    have h := (hf 5 _ rfl).trans e5
    change DataW.trod enc _ w base spare held n 3 (List.take (Tryz.prog.cellsOf 3) (List.drop 5 [a0, a1, a2, a3, a4, a5])) = some y5 at h
    rw [cI] at h
    exact h
  obtain ⟨s0, r0, z0⟩ := dec_string Tryz.underlying9 _ _ _ f0
  obtain ⟨l1, A, k1, c1, r1, _, _, z1⟩ := dec_rows _ _ _ f1
  obtain ⟨l2, B, k2, c2, r2, _, _, z2⟩ := dec_vars _ _ _ f2
  obtain ⟨l3, C, k3, c3, r3, _, _, z3⟩ := dec_strs _ _ _ f3
  obtain ⟨l4, D, k4, c4, r4, _, _, z4⟩ := dec_vars _ _ _ f4
  obtain ⟨n5, r5, z5⟩ := dec_int Tryz.underlying3 _ _ _ f5
  cases r0; cases r1; cases r2; cases r3; cases r4; cases r5
  exact ⟨⟨s0, l1, l2, l3, l4, n5⟩, A, k1, c1, B, k2, c2, C, k3, c3, D, k4, c4, ⟨z0, z1, z2, z3, z4, z5⟩, rfl⟩
end
/-- a world that lays errors of package errors, each in a block of its own -/
noncomputable def errWorld (w0 : World) (tp ts : TypeId) (errs : List (Nat × List UInt8)) : World :=
  { w0 with heap := errs.foldl (fun h e => (h.push (.cells #[.string ⟨e.2.toArray⟩] ts (0, 0))).modify e.1 fun
    | .cells _ ty frozen => .cells #[.iface tp (.pointer (some ⟨h.size, 0, none⟩))] ty frozen
    | o => o) w0.heap }
end Go.Proofs.Sm

namespace Go.Proofs.Sm
open Go.RowKit Go.ChangeShapes Go.WideShapes Go.ChangeAt

section
variable {H : Type} {enc : TypeId × Value → H} {w : World} {base : Nat} {spare : Nat → Bool} {held : Bool}
theorem eight_of {α : Type} {l : List α} (h : l.length = 8) : ∃ a b c d e f g i, l = [a, b, c, d, e, f, g, i] := by
  rcases l with _ | ⟨a, _ | ⟨b, _ | ⟨c, _ | ⟨d, _ | ⟨e, _ | ⟨f, _ | ⟨g, _ | ⟨i, _ | ⟨j, r⟩⟩⟩⟩⟩⟩⟩⟩⟩
  all_goals (try (simp at h; done))
  exact ⟨a, b, c, d, e, f, g, i, rfl⟩
/-- what reads as an action, its cells' order known -/
theorem dec_strs2 {fuel : Nat} {cs : List Value} {d : DataW H × List MemPlace} (h : DataW.trod enc Tryz.prog w base spare held fuel 23 cs = some d) : ∃ (l : List ByteArray) (A : Option Addr) (n c : Nat), cs = [.slice A n c] ∧ n ≤ c ∧ c ≤ maxLen ∧ Sl w (Lt w.heap.size) A n l := by
  obtain ⟨l, A, n, c, h1, h2, h3, h4⟩ := dec_strs _ _ _ h
  exact ⟨l, A, n, c, h1, h2, h3, h4⟩
theorem action_caps {cs : List Value} {fuel : Nat} {d : DataW H × List MemPlace} (h : DataW.trod enc Tryz.prog w base spare held fuel 49 cs = some d) :
    ∃ a A n n' B m m' C p p' D q q', ActIs w a A n B m C p D q ∧ (n ≤ n' ∧ n' ≤ maxLen ∧ m ≤ m' ∧ m' ≤ maxLen ∧ p ≤ p' ∧ p' ≤ maxLen ∧ q ≤ q' ∧ q' ≤ maxLen) ∧ cs = [.string a.tool, .slice A n n', .slice B m m', .slice C p p', .slice D q q', .int .i64 a.time] := by
  obtain ⟨a, A, n, n', B, m, m', C, p, p', D, q, q', h1, h2⟩ := action_of h
  obtain ⟨xs, k, _, _, hlen, hxl, hf⟩ := DataW.trod_struct Tryz.underlying49 h
  have cR : Tryz.prog.cellsOf 46 = 1 := by kernel_rfl
  have cV : Tryz.prog.cellsOf 47 = 1 := by kernel_rfl
  have cL : Tryz.prog.cellsOf 23 = 1 := by kernel_rfl
  have hxl' : xs.length = 6 := hxl
  subst h2
  obtain ⟨y1, e1⟩ := at_some hxl' (show 1 < 6 by decide)
  obtain ⟨y2, e2⟩ := at_some hxl' (show 2 < 6 by decide)
  obtain ⟨y3, e3⟩ := at_some hxl' (show 3 < 6 by decide)
  obtain ⟨y4, e4⟩ := at_some hxl' (show 4 < 6 by decide)
  have f1 : DataW.trod enc Tryz.prog w base spare held k 46 [.slice A n n'] = some y1 := by
    have h := (hf 1 _ rfl).trans e1
    change DataW.trod enc _ w base spare held k 46 (List.take (Tryz.prog.cellsOf 46) (List.drop 1 [.string a.tool, .slice A n n', .slice B m m', .slice C p p', .slice D q q', .int .i64 a.time])) = some y1 at h
    rw [cR] at h
    exact h
  have f2 : DataW.trod enc Tryz.prog w base spare held k 47 [.slice B m m'] = some y2 := by
    have h := (hf 2 _ rfl).trans e2
    change DataW.trod enc _ w base spare held k 47 (List.take (Tryz.prog.cellsOf 47) (List.drop 2 [.string a.tool, .slice A n n', .slice B m m', .slice C p p', .slice D q q', .int .i64 a.time])) = some y2 at h
    rw [cV] at h
    exact h
  have f3 : DataW.trod enc Tryz.prog w base spare held k 23 [.slice C p p'] = some y3 := by
    have h := (hf 3 _ rfl).trans e3
    change DataW.trod enc _ w base spare held k 23 (List.take (Tryz.prog.cellsOf 23) (List.drop 3 [.string a.tool, .slice A n n', .slice B m m', .slice C p p', .slice D q q', .int .i64 a.time])) = some y3 at h
    rw [cL] at h
    exact h
  have f4 : DataW.trod enc Tryz.prog w base spare held k 47 [.slice D q q'] = some y4 := by
    have h := (hf 4 _ rfl).trans e4
    change DataW.trod enc _ w base spare held k 47 (List.take (Tryz.prog.cellsOf 47) (List.drop 4 [.string a.tool, .slice A n n', .slice B m m', .slice C p p', .slice D q q', .int .i64 a.time])) = some y4 at h
    rw [cV] at h
    exact h
  obtain ⟨_, _, _, _, r1, u1, v1, _⟩ := dec_rows _ _ _ f1
  obtain ⟨_, _, _, _, r2, u2, v2, _⟩ := dec_vars _ _ _ f2
  obtain ⟨_, _, _, _, r3, u3, v3, _⟩ := dec_strs _ _ _ f3
  obtain ⟨_, _, _, _, r4, u4, v4, _⟩ := dec_vars _ _ _ f4
  cases r1; cases r2; cases r3; cases r4
  exact ⟨a, A, n, n', B, m, m', C, p, p', D, q, q', h1, ⟨u1, v1, u2, v2, u3, v3, u4, v4⟩, rfl⟩
theorem dec_rule : Dec enc Tryz.prog w base spare held 51 RuleV := fun fuel cs d h => by
  obtain ⟨xs, n, _, _, hlen, hxl, hf⟩ := DataW.trod_struct Tryz.underlying51 h
  have hc : Tryz.prog.cellsOf 51 = 8 := by kernel_rfl
  have cS : Tryz.prog.cellsOf 9 = 1 := by kernel_rfl
  have cA : Tryz.prog.cellsOf 49 = 6 := by kernel_rfl
  have cL : Tryz.prog.cellsOf 23 = 1 := by kernel_rfl
  rw [hc] at hlen
  have hxl' : xs.length = 3 := hxl
  obtain ⟨a0, a1, a2, a3, a4, a5, a6, a7, rfl⟩ := eight_of hlen
  obtain ⟨y0, e0⟩ := at_some hxl' (show 0 < 3 by decide)
  obtain ⟨y1, e1⟩ := at_some hxl' (show 1 < 3 by decide)
  obtain ⟨y2, e2⟩ := at_some hxl' (show 2 < 3 by decide)
  have f0 : DataW.trod enc Tryz.prog w base spare held n 9 [a0] = some y0 := by
    have h := (hf 0 _ rfl).trans e0
    change DataW.trod enc _ w base spare held n 9 (List.take (Tryz.prog.cellsOf 9) (List.drop 0 [a0, a1, a2, a3, a4, a5, a6, a7])) = some y0 at h
    rw [cS] at h
    exact h
  have f1 : DataW.trod enc Tryz.prog w base spare held n 49 [a1, a2, a3, a4, a5, a6] = some y1 := by
    have h := (hf 1 _ rfl).trans e1
    change DataW.trod enc _ w base spare held n 49 (List.take (Tryz.prog.cellsOf 49) (List.drop 1 [a0, a1, a2, a3, a4, a5, a6, a7])) = some y1 at h
    rw [cA] at h
    exact h
  have f2 : DataW.trod enc Tryz.prog w base spare held n 23 [a7] = some y2 := by
    have h := (hf 2 _ rfl).trans e2
    change DataW.trod enc _ w base spare held n 23 (List.take (Tryz.prog.cellsOf 23) (List.drop 7 [a0, a1, a2, a3, a4, a5, a6, a7])) = some y2 at h
    rw [cL] at h
    exact h
  obtain ⟨s0, h0, _, z0⟩ := DataW.trod_string Tryz.underlying9 f0
  obtain ⟨a, A, n1, c1, B, n2, c2, C, n3, c3, D, n4, c4, hA, hcap, hcs⟩ := action_caps f1
  obtain ⟨l5, E, n5, c5, h5, h51, h52, z5⟩ := dec_strs _ _ _ f2
  cases h0; cases hcs; cases h5
  obtain ⟨g1, g2, g3, g4, g5, g6⟩ := hA
  obtain ⟨k1, k2, k3, k4, k5, k6, k7, k8⟩ := hcap
  exact ⟨⟨s0, a, l5⟩, A, n1, c1, B, n2, c2, C, n3, c3, D, n4, c4, E, n5, c5, rfl, ⟨z0, g1, g6⟩, ⟨k1, k2, k3, k4, k5, k6, k7, k8, h51, h52⟩, g2, g3, g4, g5, z5⟩
theorem dec_rules : Dec enc Tryz.prog w base spare held 22 (List RuleV) := dec_slice Tryz.underlying22 (by kernel_rfl) (by decide) dec_rule
end
end Go.Proofs.Sm

namespace Go.Proofs.Sm
open Go.RowKit Go.ChangeShapes Go.WideShapes Go.ChangeAt

section
variable {H : Type} {enc : TypeId × Value → H} {w : World} {base : Nat} {spare : Nat → Bool} {held : Bool}
theorem result_caps {cs : List Value} {fuel : Nat} {d : DataW H × List MemPlace} (h : DataW.trod enc Tryz.prog w base spare held fuel 66 cs = some d) :
    ∃ r A n c B m e, ResIs w r A n B m ∧ (n ≤ c ∧ c ≤ maxLen ∧ m ≤ e ∧ e ≤ maxLen) ∧ cs = [.int .i64 r.code, .string r.text, .slice A n c, .slice B m e, .int .i64 r.command] := by
  obtain ⟨xs, n, _, _, hlen, hxl, hf⟩ := DataW.trod_struct Tryz.underlying66 h
  have hc : Tryz.prog.cellsOf 66 = 5 := by kernel_rfl
  have cI : Tryz.prog.cellsOf 3 = 1 := by kernel_rfl
  have cS : Tryz.prog.cellsOf 9 = 1 := by kernel_rfl
  have cF : Tryz.prog.cellsOf 64 = 1 := by kernel_rfl
  have cL : Tryz.prog.cellsOf 63 = 1 := by kernel_rfl
  rw [hc] at hlen
  have hxl' : xs.length = 5 := hxl
  obtain ⟨a0, a1, a2, a3, a4, rfl⟩ := five_of hlen
  obtain ⟨y0, e0⟩ := at_some hxl' (show 0 < 5 by decide)
  obtain ⟨y1, e1⟩ := at_some hxl' (show 1 < 5 by decide)
  obtain ⟨y2, e2⟩ := at_some hxl' (show 2 < 5 by decide)
  obtain ⟨y3, e3⟩ := at_some hxl' (show 3 < 5 by decide)
  obtain ⟨y4, e4⟩ := at_some hxl' (show 4 < 5 by decide)
  have f0 : DataW.trod enc Tryz.prog w base spare held n 3 [a0] = some y0 := by
    have h := (hf 0 _ rfl).trans e0
    change DataW.trod enc _ w base spare held n 3 (List.take (Tryz.prog.cellsOf 3) (List.drop 0 [a0, a1, a2, a3, a4])) = some y0 at h
    rw [cI] at h
    exact h
  have f1 : DataW.trod enc Tryz.prog w base spare held n 9 [a1] = some y1 := by
    have h := (hf 1 _ rfl).trans e1
    change DataW.trod enc _ w base spare held n 9 (List.take (Tryz.prog.cellsOf 9) (List.drop 1 [a0, a1, a2, a3, a4])) = some y1 at h
    rw [cS] at h
    exact h
  have f2 : DataW.trod enc Tryz.prog w base spare held n 64 [a2] = some y2 := by
    have h := (hf 2 _ rfl).trans e2
    change DataW.trod enc _ w base spare held n 64 (List.take (Tryz.prog.cellsOf 64) (List.drop 2 [a0, a1, a2, a3, a4])) = some y2 at h
    rw [cF] at h
    exact h
  have f3 : DataW.trod enc Tryz.prog w base spare held n 63 [a3] = some y3 := by
    have h := (hf 3 _ rfl).trans e3
    change DataW.trod enc _ w base spare held n 63 (List.take (Tryz.prog.cellsOf 63) (List.drop 3 [a0, a1, a2, a3, a4])) = some y3 at h
    rw [cL] at h
    exact h
  have f4 : DataW.trod enc Tryz.prog w base spare held n 3 [a4] = some y4 := by
    have h := (hf 4 _ rfl).trans e4
    change DataW.trod enc _ w base spare held n 3 (List.take (Tryz.prog.cellsOf 3) (List.drop 4 [a0, a1, a2, a3, a4])) = some y4 at h
    rw [cI] at h
    exact h
  obtain ⟨n0, r0, z0⟩ := dec_int Tryz.underlying3 _ _ _ f0
  obtain ⟨s1, r1, z1⟩ := dec_string Tryz.underlying9 _ _ _ f1
  obtain ⟨l2, A, k2, c2, r2, u2, v2, z2⟩ := dec_files _ _ _ f2
  obtain ⟨l3, B, k3, c3, r3, u3, v3, z3⟩ := dec_looks _ _ _ f3
  obtain ⟨n4, r4, z4⟩ := dec_int Tryz.underlying3 _ _ _ f4
  cases r0; cases r1; cases r2; cases r3; cases r4
  exact ⟨⟨n0, s1, l2, l3, n4⟩, A, k2, c2, B, k3, c3, ⟨z0, z1, z2, z3, z4⟩, ⟨u2, v2, u3, v3⟩, rfl⟩
theorem dec_memory : Dec enc Tryz.prog w base spare held 68 MemoryV := fun fuel cs d h => by
  obtain ⟨xs, n, _, _, hlen, hxl, hf⟩ := DataW.trod_struct Tryz.underlying68 h
  have hc : Tryz.prog.cellsOf 68 = 8 := by kernel_rfl
  have cS : Tryz.prog.cellsOf 9 = 1 := by kernel_rfl
  have cR : Tryz.prog.cellsOf 66 = 5 := by kernel_rfl
  have cL : Tryz.prog.cellsOf 63 = 1 := by kernel_rfl
  rw [hc] at hlen
  have hxl' : xs.length = 4 := hxl
  obtain ⟨a0, a1, a2, a3, a4, a5, a6, a7, rfl⟩ := eight_of hlen
  obtain ⟨y0, e0⟩ := at_some hxl' (show 0 < 4 by decide)
  obtain ⟨y1, e1⟩ := at_some hxl' (show 1 < 4 by decide)
  obtain ⟨y2, e2⟩ := at_some hxl' (show 2 < 4 by decide)
  obtain ⟨y3, e3⟩ := at_some hxl' (show 3 < 4 by decide)
  have f0 : DataW.trod enc Tryz.prog w base spare held n 9 [a0] = some y0 := by
    have h := (hf 0 _ rfl).trans e0
    change DataW.trod enc _ w base spare held n 9 (List.take (Tryz.prog.cellsOf 9) (List.drop 0 [a0, a1, a2, a3, a4, a5, a6, a7])) = some y0 at h
    rw [cS] at h
    exact h
  have f1 : DataW.trod enc Tryz.prog w base spare held n 9 [a1] = some y1 := by
    have h := (hf 1 _ rfl).trans e1
    change DataW.trod enc _ w base spare held n 9 (List.take (Tryz.prog.cellsOf 9) (List.drop 1 [a0, a1, a2, a3, a4, a5, a6, a7])) = some y1 at h
    rw [cS] at h
    exact h
  have f2 : DataW.trod enc Tryz.prog w base spare held n 63 [a2] = some y2 := by
    have h := (hf 2 _ rfl).trans e2
    change DataW.trod enc _ w base spare held n 63 (List.take (Tryz.prog.cellsOf 63) (List.drop 2 [a0, a1, a2, a3, a4, a5, a6, a7])) = some y2 at h
    rw [cL] at h
    exact h
  have f3 : DataW.trod enc Tryz.prog w base spare held n 66 [a3, a4, a5, a6, a7] = some y3 := by
    have h := (hf 3 _ rfl).trans e3
    change DataW.trod enc _ w base spare held n 66 (List.take (Tryz.prog.cellsOf 66) (List.drop 3 [a0, a1, a2, a3, a4, a5, a6, a7])) = some y3 at h
    rw [cR] at h
    exact h
  obtain ⟨s0, h0, _, z0⟩ := DataW.trod_string Tryz.underlying9 f0
  obtain ⟨s1, h1, _, z1⟩ := DataW.trod_string Tryz.underlying9 f1
  obtain ⟨l2, A, n2, c2, h2, u2, v2, z2⟩ := dec_looks _ _ _ f2
  obtain ⟨r, B, m, d', C, p, q, hR, hcap, hcs⟩ := result_caps f3
  cases h0; cases h1; cases h2; cases hcs
  obtain ⟨g1, g2, g3, g4, g5⟩ := hR
  obtain ⟨k1, k2, k3, k4⟩ := hcap
  exact ⟨⟨s0, s1, l2, r⟩, A, n2, c2, B, m, d', C, p, q, rfl, ⟨z0, z1, g2, g1, g5⟩, ⟨u2, v2, k1, k2, k3, k4⟩, z2, g3, g4⟩
theorem dec_mems : Dec enc Tryz.prog w base spare held 30 (List MemoryV) := dec_slice Tryz.underlying30 (by kernel_rfl) (by decide) dec_memory
end
end Go.Proofs.Sm

namespace Go.Proofs.YtadokhhgljddkaaGreatDoor.memory
open Go.ChangeShapes Go.WideShapes Go.ChangeAt Go.RowKit Go.Proofs.Sm

noncomputable def laidWorld (os : Os) : World := errWorld (tableWorld os [(1, Rows.laid_unicode_utf8_first), (2, Rows.laid_unicode_utf8_acceptRanges), (3, Rows.laid_internal_strconv_uint64pow10), (4, Rows.laid_math_bits_deBruijn32tab), (5, Rows.laid_math_bits_deBruijn64tab)])
  239 241 [(7, [118, 97, 108, 117, 101, 32, 111, 117, 116, 32, 111, 102, 32, 114, 97, 110, 103, 101]), (6, [105, 110, 118, 97, 108, 105, 100, 32, 115, 121, 110, 116, 97, 120])]
theorem laid_met (os : Os) (args : Array Value) : laidMet Tryz.prog Rows.stepsMemoryMatchSpecRow.laid ((laidWorld os).forCall (fun _ _ => 0) ⟨#[], args, []⟩).memory :=
  (LaidIn.of_run (l := Rows.stepsMemoryMatchSpecRow.laid) (List.range 30) 8 (by kernel_rfl) (by kernel_rfl) (by kernel_rfl) (by kernel_rfl)).met
theorem reads (os : Os) {H : Type} (enc : TypeId × Value → H) : ∃ ds places, DataW.whole enc Tryz.prog ((laidWorld os).forCall (fun _ _ => 0) ⟨#[], #[.slice none 0 0, .slice none 0 0, .slice none 0 0], []⟩).memory Tryz.f4.params.toList Rows.stepsMemoryMatchSpecSpec.vars false #[Value.slice none 0 0, Value.slice none 0 0, Value.slice none 0 0].toList 8 = some (ds, [], places) :=
  ⟨[.nil, .nil, .nil], [], by kernel_rfl⟩

set_option maxRecDepth 100000 in
theorem contract (H : Type) (enc : TypeId × Value → H) (W : World) (base : Nat) (args : Array Value) (ds gs : List (DataW H)) (before : List MemPlace)
    (hval : ∀ (j : Nat) t v, Tryz.f4.params[j]? = some t → args[j]? = some v → Value.okWide Tryz.prog W .any base t v)
    (hW : DataW.Whole enc Tryz.prog Tryz.f4.params.toList Rows.stepsMemoryMatchSpecSpec.vars false W args.toList ds gs before) (hE : Env2 W) :
    Calls Tryz.prog 4 args W fun e W' => ∃ v, e = .returned v ∧ Rows.stepsMemoryMatchSpecSpec.post enc Tryz.prog Tryz.f4 false true false false W args v W' := by
  have hW' := hW
  obtain ⟨p, q, hA0, hV, rfl, hfz, hnd⟩ := hW
  have hA : DataW.TrodAll enc Tryz.prog W 0 (fun _ => true) true Tryz.f4.params.toList args.toList ds p := hA0
  rw [Tryz.params4] at hA hval
  obtain ⟨v0, vs0, d0, ds0, p0, q0, hargs, rfl, rfl, h0, r0⟩ := trodAll_cons hA
  obtain ⟨v1, vs1, d1, ds1, p1, q1, rfl, rfl, rfl, h1, r1⟩ := trodAll_cons r0
  obtain ⟨v2, vs2, d2, ds2, p2, q2, rfl, rfl, rfl, h2, r2⟩ := trodAll_cons r1
  obtain ⟨rfl, rfl, rfl⟩ := trodAll_nil r2
  obtain rfl : args = #[v0, v1, v2] := by cases args; simp_all
  obtain ⟨rfl, rfl⟩ := trodVars_none hV
  have k0 := h0
  have lt0 : ∀ x ∈ p0, x.block < W.heap.size := by obtain ⟨m, hm⟩ := k0; exact DataW.trod_lt m _ _ _ hm
  have k1 := h1
  have lt1 : ∀ x ∈ p1, x.block < W.heap.size := by obtain ⟨m, hm⟩ := k1; exact DataW.trod_lt m _ _ _ hm
  have k2 := h2
  have lt2 : ∀ x ∈ p2, x.block < W.heap.size := by obtain ⟨m, hm⟩ := k2; exact DataW.trod_lt m _ _ _ hm
  obtain ⟨A0, n0, c0, l0, rfl, hs0⟩ := arg_slice dec_rules (okWide_slice Tryz.underlying22 (hval 0 22 v0 rfl rfl)) h0
  obtain ⟨A1, n1, c1, l1, rfl, hs1⟩ := arg_slice dec_mems (okWide_slice Tryz.underlying30 (hval 1 30 v1 rfl rfl)) h1
  obtain ⟨A2, n2, c2, l2, rfl, hs2⟩ := arg_slice dec_mems (okWide_slice Tryz.underlying30 (hval 2 30 v2 rfl rfl)) h2
  clear hA0
  refine (law_memory A0 A1 A2 n0 c0 n1 c1 n2 c2 l0 l1 l2 W hE hs0 hs1 hs2).mono fun e W' ⟨he, bel⟩ => ?_
  subst he
  exact ⟨_, rfl, _, _, _, [], _, [], hW', trodAll_mk1 (shut_bool Tryz.underlying4 _), (trodAll_cons_mk (Below.trod laidOut (by kernel_rfl) (of_decide_eq_true (by kernel_rfl)) k0 bel lt0) (trodAll_cons_mk (Below.trod laidOut (by kernel_rfl) (of_decide_eq_true (by kernel_rfl)) k1 bel lt1) (trodAll_cons_mk (Below.trod laidOut (by kernel_rfl) (of_decide_eq_true (by kernel_rfl)) k2 bel lt2) trodAll_mk0))), rfl, bel.frame _, fun h => by cases h⟩

set_option maxRecDepth 100000 in
theorem lifted (os : Os) (started : os.Started) (H : Type) (enc : TypeId × Value → H) (F : Stop.Interp) :
    ReturnsInHanded {} Tryz.checked os 4 .any ((OpenSpec.ofChange Rows.stepsMemoryMatchSpecSpec).preRow enc Tryz.prog Tryz.f4 Rows.stepsMemoryMatchSpecRow.domain false Rows.stepsMemoryMatchSpecRow.laid) (((OpenSpec.ofChange Rows.stepsMemoryMatchSpecSpec).at F).post enc Tryz.prog Tryz.f4 false true false false) := by
  obtain ⟨d, places, hx⟩ := reads os enc
  refine returnsInHanded_of_row (C := Tryz.checked) (s := OpenSpec.ofChange Rows.stepsMemoryMatchSpecSpec) own started (by kernel_rfl) Tryz.func4
    (witness_row_atRef (enc := enc) (C := Tryz.checked) false (laidWorld os) #[.slice none 0 0, .slice none 0 0, .slice none 0 0] rfl (by kernel_rfl) (by kernel_rfl) (by kernel_rfl)
      (OpenSpec.preRow_of_cond 8 hx (by kernel_rfl) (fun k hk => by cases hk) (by kernel_rfl) (laid_met os _))) ?_
  intro W base args ds gs before hval hW _ _ _ hL hS _
  exact contract H enc W base args ds gs before hval hW (env2_of hL hS (by simp [Rows.stepsMemoryMatchSpecRow, Rows.laid_unicode_utf8_first]) (by simp [Rows.stepsMemoryMatchSpecRow]) (by simp [Rows.stepsMemoryMatchSpecRow]))

theorem said : Rows.StepsMemoryMatchSpecSaid :=
  OpenClaim.holds_of_cond 4 Tryz.f4 rfl rfl rfl rfl rfl rfl rfl ⟨rfl, rfl, rfl, rfl, rfl⟩ rfl rfl rfl rfl rfl (by kernel_rfl) Tryz.func4 closed
    (of_decide_eq_true (by as_aux_lemma => kernel_rfl)) (by unfold Func.isWrapper; first | (rw [if_pos (by decide +kernel)]; kernel_rfl) | (rw [if_neg (by decide +kernel)]; exact ⟨rfl, rfl⟩))
    (fun os started H enc _ F => by rw [OpenClaim.pre_eq_preRow]; exact lifted os started H enc F)

theorem plain (f : FuncId) (fn : Func) (hf : Tryz.pinned.checked.prog.funcNamed Rows.stepsMemoryMatchSpecRow.func = some f) (hfn : Tryz.pinned.checked.prog.funcs[f]? = some fn) :
    true = Tryz.pinned.checked.prog.looks [] ∧ ∀ (j : Nat) t, fn.params[j]? = some t → Tryz.pinned.checked.prog.wantsStandIn t = false := by
  obtain rfl : f = 4 := Option.some.inj ((show Tryz.prog.funcNamed Rows.stepsMemoryMatchSpecRow.func = some 4 by kernel_rfl).symm.trans hf) |>.symm
  obtain rfl : fn = Tryz.f4 := (Option.some.inj (Tryz.func4.symm.trans hfn)).symm
  refine ⟨by kernel_rfl, fun j t ht => ?_⟩
  rw [Tryz.params4] at ht
  have hm : t = 22 ∨ t = 30 ∨ t = 30 := by simpa using Array.mem_of_getElem? ht
  rcases hm with rfl | rfl | rfl
  · exact (show Tryz.prog.wantsStandIn 22 = false by kernel_rfl)
  · exact (show Tryz.prog.wantsStandIn 30 = false by kernel_rfl)
  · exact (show Tryz.prog.wantsStandIn 30 = false by kernel_rfl)

/-- The card. -/
theorem card : Rows.StepsMemoryMatchSpecCardSaid :=
  Claim7.holds_tied_plain_at .later [] _ _ _ _ said (fun _ h => by cases h) (by as_aux_lemma => kernel_rfl) (fun _ h => by cases h) stepsMemoryMatchSpec_row_tie rfl ⟨rfl, rfl⟩ (by as_aux_lemma => kernel_rfl) rfl plain (by as_aux_lemma => kernel_rfl)
end Go.Proofs.YtadokhhgljddkaaGreatDoor.memory
