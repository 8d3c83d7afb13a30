/- An action is read as it was written, and the text of what was read is the text: the given statement, for all arguments; no condition. -/
import Derived.Test.YtiajmcmncafecaaGreatDoorH8x6
import Derived.Test.YtiajmcmncafecaaGreatDoorH8x8
import Derived.Test.YtiajmcmncafecaaGreatDoorH8x7
import Derived.Test.YtiajmcmncafecaaGreatDoorCardZRC8
namespace Go.Proofs.Sm
open Go.RowKit

/-! ### Written as it was -/
theorem words_join (s : ByteArray) : joinS (wordsOf s) = s.data.toList := by rw [joinS, wordsOf_data, pieces_join]
/-- what has been read so far, as a text -/
def partA (st : ASt) : List UInt8 := (if 1 ≤ st.last then toolL st.a else []) ++ st.a.commands.flatMap cmdL ++ st.a.vars.flatMap varL ++ st.a.outputs.flatMap outL ++ st.a.needs.flatMap needL ++ (if st.last = 6 then timeL st.a else [])
structure InvA (st : ASt) : Prop where
  commands : st.last < 2 → st.a.commands = []
  vars : st.last < 3 → st.a.vars = []
  outputs : st.last < 4 → st.a.outputs = []
  needs : st.last < 5 → st.a.needs = []
theorem place_cases (w : List UInt8) : placeS w = 0 ∨ (placeS w = 1 ∧ w = toolW) ∨ (placeS w = 2 ∧ w = doW) ∨ (placeS w = 3 ∧ w = varW) ∨ (placeS w = 4 ∧ w = outW) ∨ (placeS w = 5 ∧ w = needW) ∨ (placeS w = 6 ∧ w = timeW) := by
  unfold placeS
  repeat' split
  all_goals simp_all
theorem misplaced_no {last k : Nat} (h : misplaced last k = false) : k ≠ 0 ∧ last ≤ k ∧ (last = k → 2 ≤ k ∧ k ≤ 5) ∧ (last = 0 → k = 1) := by
  simp only [misplaced, Bool.or_eq_false_iff, decide_eq_false_iff_not, Bool.and_eq_false_iff, Bool.not_eq_false', Bool.and_eq_true, decide_eq_true_eq] at h
  omega
theorem line_wrote {st st' : ASt} {s : ByteArray} (hi : InvA st) (h : lineA st s = some st') : InvA st' ∧ partA st' = partA st ++ (s.data.toList ++ [10]) := by
  obtain ⟨last, tool, cs, vs, os, ns, tm⟩ := st
  rw [lineA] at h
  split at h
  · cases h
  · rename_i hc
    simp only [Bool.or_eq_true, Bool.not_eq_true', not_or, Bool.not_eq_false] at hc
    obtain ⟨hh, hm⟩ := hc
    have hm2 := misplaced_no (by simpa using hm)
    have hs := (cut_whole hh).2
    obtain ⟨i1, i2, i3, i4⟩ := hi
    simp only at i1 i2 i3 i4 hm2
    rcases place_cases (cut1 s 32).data.toList with h0 | ⟨h0, hw⟩ | ⟨h0, hw⟩ | ⟨h0, hw⟩ | ⟨h0, hw⟩ | ⟨h0, hw⟩ | ⟨h0, hw⟩
    · exact absurd h0 hm2.1
    all_goals
      rw [h0] at h hm2
      simp only [takeS] at h
      simp (config := { decide := true }) only [if_true, if_false] at h
      split at h
      · rename_i hk
        simp only [Option.map_some, Option.some.injEq] at h
        subst h
        first
          | (have hl : last = 0 := by omega
             subst hl
             have a1 := i1 (by omega); have a2 := i2 (by omega); have a3 := i3 (by omega); have a4 := i4 (by omega)
             subst a1; subst a2; subst a3; subst a4
             exact ⟨⟨fun _ => rfl, fun _ => rfl, fun _ => rfl, fun _ => rfl⟩, by rw [hs, hw]; simp [partA, toolL, toolW]⟩)
          | (have hl : last = 1 ∨ last = 2 := by omega
             have a2 := i2 (by omega); have a3 := i3 (by omega); have a4 := i4 (by omega)
             subst a2; subst a3; subst a4
             refine ⟨⟨fun h => by simp at h, fun _ => rfl, fun _ => rfl, fun _ => rfl⟩, ?_⟩
             have e1 : 1 ≤ last := by omega
             have e6 : ¬ last = 6 := by omega
             rw [hs, hw]
             simp [partA, toolL, cmdL, doW, words_join, e1, e6])
          | (have hl : last = 1 ∨ last = 2 ∨ last = 3 := by omega
             have a3 := i3 (by omega); have a4 := i4 (by omega)
             subst a3; subst a4
             refine ⟨⟨fun h => by simp at h, fun h => by simp at h, fun _ => rfl, fun _ => rfl⟩, ?_⟩
             have e1 : 1 ≤ last := by omega
             have e6 : ¬ last = 6 := by omega
             have h2 := (cut_whole (Bool.and_eq_true_iff.1 hk).1).2
             rw [hs, hw, h2]
             simp [partA, toolL, varL, varW, e1, e6])
          | (have hl : last = 1 ∨ last = 2 ∨ last = 3 ∨ last = 4 := by omega
             have a4 := i4 (by omega)
             subst a4
             refine ⟨⟨fun h => by simp at h, fun h => by simp at h, fun h => by simp at h, fun _ => rfl⟩, ?_⟩
             have e1 : 1 ≤ last := by omega
             have e6 : ¬ last = 6 := by omega
             rw [hs, hw]
             simp [partA, toolL, outL, outW, e1, e6])
          | (have hl : last = 1 ∨ last = 2 ∨ last = 3 ∨ last = 4 ∨ last = 5 := by omega
             refine ⟨⟨fun h => by simp at h, fun h => by simp at h, fun h => by simp at h, fun h => by simp at h⟩, ?_⟩
             have e1 : 1 ≤ last := by omega
             have e6 : ¬ last = 6 := by omega
             first
               | (have h2 := (cut_whole (Bool.and_eq_true_iff.1 hk).1).2
                  rw [hs, hw, h2]
                  simp [partA, toolL, needL, needW, e1, e6]; done)
               | (rw [hs, hw]
                  simp [partA, toolL, timeL, timeW, e1, e6, number_text hk]; done))
      · cases h
theorem loopA_wrote : ∀ (f : Nat) (S : ByteArray) (n : Nat) (st : ASt) (a : ActionV), S.size ≤ f → InvA st → loopA f S n st = .ok a → actTextL a = partA st ++ S.data.toList := by
  have hend : ∀ (S : ByteArray) (n : Nat) (st : ASt) (a : ActionV), S.size = 0 → doneA n st = .ok a → actTextL a = partA st ++ S.data.toList := by
    intro S n st a h0 h
    rw [doneA] at h
    split at h
    · rename_i h6
      cases h
      have e0 : S.data.toList = [] := List.eq_nil_of_length_eq_zero (by simpa using h0)
      rw [e0, partA, if_pos (by omega), if_pos h6, actTextL]
      simp
    · cases h
  intro f
  induction f with
  | zero => intro S n st a hf _ h; exact hend S n st a (by omega) h
  | succ f ih =>
    intro S n st a hf hi h
    rw [loopA] at h
    split at h
    · rename_i h0; exact hend S n st a h0 h
    · split at h
      · cases h
      · rename_i hc
        have hc2 : cutHas S 10 = true := by simpa using hc
        have hl := cut_less hc2
        split at h
        · cases h
        · rename_i st' hs
          obtain ⟨hi', hp⟩ := line_wrote hi hs
          rw [ih _ _ _ _ (by omega) hi' h, hp, (cut_whole hc2).2]
          simp
theorem action_wrote {T : ByteArray} {a : ActionV} (h : runA T 1 ⟨0, noAction⟩ = .ok a) : actTextL a = T.data.toList := by
  have h1 := loopA_wrote _ _ _ _ _ (Nat.le_refl _) (⟨fun _ => rfl, fun _ => rfl, fun _ => rfl, fun _ => rfl⟩ : InvA ⟨0, noAction⟩) h
  rw [h1]
  simp [partA, noAction]
end Go.Proofs.Sm

namespace Go.Proofs.Sm
open Go.RowKit

/-- a word, a blank, a rest: a line put to an action -/
theorem line_of {word r : List UInt8} {k : Nat} {st : ASt} {a : ActionV} {s : ByteArray} (hs : s.data.toList = word ++ 32 :: r) (hw : 32 ∉ word) (hk : placeS word = k) (hm : misplaced st.last k = false)
    (ht : takeS st.a k ⟨r.toArray⟩ = some a) : lineA st s = some ⟨k, a⟩ := by
  obtain ⟨h1, h2, h3⟩ := cut_parts hs hw
  have e2 : cut2 s 32 = ⟨r.toArray⟩ := bytes_eq (by rw [h3])
  rw [lineA, h1, h2, hk, hm, e2, ht]
  rfl
theorem run_line {S : ByteArray} {line rest : List UInt8} {n : Nat} {st st' : ASt} (hS : S.data.toList = line ++ 10 :: rest) (hn : 10 ∉ line) (hl : ∀ s : ByteArray, s.data.toList = line → lineA st s = some st') :
    runA S n st = runA ⟨rest.toArray⟩ (n + 1) st' := by
  obtain ⟨h1, h2, h3⟩ := cut_parts hS hn
  have e2 : cut2 S 10 = ⟨rest.toArray⟩ := bytes_eq (by rw [h3])
  rw [runA_round h1 (hl _ h2), e2]
theorem one_of {x : List UInt8} (h : Word x) : oneWord ⟨x.toArray⟩ = true := by
  have h1 := cut_none h.blank
  rw [oneWord, cutHas]
  simp only [h1]
  simp [h.some]
theorem two_of' {n v : List UInt8} (h : Word n) : twoWords ⟨(n ++ 32 :: v).toArray⟩ = true ∧ cut1 ⟨(n ++ 32 :: v).toArray⟩ 32 = ⟨n.toArray⟩ ∧ cut2 ⟨(n ++ 32 :: v).toArray⟩ 32 = ⟨v.toArray⟩ := by
  obtain ⟨h1, h2, h3⟩ := cut_parts (s := ⟨(n ++ 32 :: v).toArray⟩) (a := n) (t := v) rfl h.blank
  refine ⟨?_, bytes_eq (by rw [h2]), bytes_eq (by rw [h3])⟩
  rw [twoWords, h1, h2]
  simp [h.some]
theorem many_of {ws : List ByteArray} (hne : ws ≠ []) (hw : ∀ x ∈ ws, Word x.data.toList) : wordsOf ⟨(joinS ws).toArray⟩ = ws ∧ noneEmpty ws = true := by
  refine ⟨?_, ?_⟩
  · have h4 := wordsOf_data ⟨(joinS ws).toArray⟩
    have h5 : (⟨(joinS ws).toArray⟩ : ByteArray).data.toList = Lib.join (ws.map (·.data.toList)) [32] := rfl
    rw [h5, join_pieces (by simpa using hne) (by
      intro x hx
      obtain ⟨y, hy, rfl⟩ := List.mem_map.1 hx
      exact (hw y hy).blank)] at h4
    exact map_bytes h4
  · rw [noneEmpty, Bool.not_eq_true', List.any_eq_false]
    intro x hx e
    exact (hw x hx).some (List.isEmpty_iff.1 e)
theorem join_line {ws : List ByteArray} (hw : ∀ x ∈ ws, Word x.data.toList) : (10 : UInt8) ∉ joinS ws := join_lineless (by
  intro x hx
  obtain ⟨y, hy, rfl⟩ := List.mem_map.1 hx
  exact (hw y hy).line)
theorem mk_eq (x : ByteArray) : (⟨x.data.toList.toArray⟩ : ByteArray) = x := bytes_eq rfl

/-! ### What a right action is made of -/
theorem command_words {c : List ByteArray} (h : checkCommandS c = 0) : c ≠ [] ∧ ∀ s ∈ c, Word s.data.toList := by
  unfold checkCommandS at h
  split at h
  · omega
  · cases c with
    | nil => simp at h
    | cons c0 words =>
      refine ⟨by simp, ?_⟩
      simp only at h
      split at h
      · omega
      · rename_i h2
        simp only [Bool.not_eq_false, List.all_eq_true] at h2
        intro s hs
        obtain ⟨h3, h4⟩ := Bool.and_eq_true_iff.1 (h2 s hs)
        have h5 := withinB_true h4
        refine all_word ?_ h3 (by decide) (by decide)
        intro e
        have := congrArg List.length e
        simp at this
        have : s.size = 0 := by simp [ByteArray.size, this]
        omega
theorem var_words {l : List VarV} (h : checkVarsS l = 0) : ∀ v ∈ l, Word v.name.data.toList ∧ (10 : UInt8) ∉ v.value.data.toList := by
  unfold checkVarsS at h
  split at h
  · omega
  · intro v hv
    obtain ⟨q, hq⟩ := listErr_all' _ h v hv
    unfold varErr at hq
    split at hq
    · omega
    · split at hq
      · omega
      · rename_i h1 h2
        simp only [Bool.not_eq_false, isNameS, Bool.and_eq_true] at h1
        have h3 := withinB_true h1.1.1.1
        simp only [Bool.or_eq_true, not_or, Bool.not_eq_true', Bool.not_eq_false] at h2
        refine ⟨all_word ?_ h1.1.2 (by decide) (by decide), fun hm => ?_⟩
        · intro e
          have := congrArg List.length e
          simp at this
          have : v.name.size = 0 := by simp [ByteArray.size, this]
          omega
        · have := List.all_eq_true.1 h2.2 _ hm
          revert this; decide
theorem output_words {l : List ByteArray} (h : checkOutputsS l = 0) : ∀ p ∈ l, Word p.data.toList := by
  unfold checkOutputsS at h
  split at h
  · omega
  · split at h
    · omega
    · split at h
      · rename_i h1; exact absurd h h1
      · rename_i h0 h1 h2
        intro p hp
        obtain ⟨q, hq⟩ := listErr_all' _ (Classical.not_not.1 h2) p hp
        unfold outErr at hq
        split at hq
        · omega
        · rename_i h3; exact path_word (by simpa using h3)
structure ActParts (a : ActionV) : Prop where
  tool : Word a.tool.data.toList
  commands : ∀ c ∈ a.commands, c ≠ [] ∧ ∀ s ∈ c, Word s.data.toList
  vars : ∀ v ∈ a.vars, Word v.name.data.toList ∧ (10 : UInt8) ∉ v.value.data.toList
  outputs : ∀ p ∈ a.outputs, Word p.data.toList
  needs : ∀ v ∈ a.needs, Word v.name.data.toList ∧ (10 : UInt8) ∉ v.value.data.toList
  time : 1 ≤ a.time ∧ a.time ≤ 100000
theorem action_parts {a : ActionV} (h : checkActionS a = 0) : ActParts a := by
  unfold checkActionS at h
  split at h
  · omega
  rename_i h1
  split at h
  · omega
  split at h
  · omega
  split at h
  · rename_i h2; exact absurd h h2
  rename_i h2
  split at h
  · rename_i h3; exact absurd h h3
  rename_i h3
  split at h
  · rename_i h4; exact absurd h h4
  rename_i h4
  split at h
  · rename_i h5; exact absurd h h5
  rename_i h5
  split at h
  · omega
  rename_i h6
  have h1' : isDigestS a.tool = true := by simpa using h1
  have h6' : withinB a.time 1 100000 = true := by simpa using h6
  refine ⟨?_, fun c hc => command_words (commandsErr_all (Classical.not_not.1 h2) c hc), var_words (Classical.not_not.1 h3), output_words (Classical.not_not.1 h4), var_words (Classical.not_not.1 h5), withinB_true h6'⟩
  rw [isDigestS, Bool.and_eq_true, beq_iff_eq] at h1'
  refine all_word ?_ h1'.1 (by decide) (by decide)
  intro e
  have := congrArg List.length e
  simp at this
  have : a.tool.size = 0 := by simp [ByteArray.size, this]
  omega

/-! ### The lists of lines -/
theorem run_commands : ∀ (l : List (List ByteArray)) (S : ByteArray) (rest : List UInt8) (n last : Nat) (a : ActionV), S.data.toList = l.flatMap cmdL ++ rest → (last = 1 ∨ last = 2) → (∀ c ∈ l, c ≠ [] ∧ ∀ s ∈ c, Word s.data.toList) →
    ∃ n' last', (last' = 1 ∨ last' = 2) ∧ runA S n ⟨last, a⟩ = runA ⟨rest.toArray⟩ n' ⟨last', { a with commands := a.commands ++ l }⟩
  | [], S, rest, n, last, a, hS, hl, _ => ⟨n, last, hl, by
      have : S = ⟨rest.toArray⟩ := bytes_eq (by rw [hS]; rfl)
      rw [this, List.append_nil]⟩
  | c :: l, S, rest, n, last, a, hS, hl, hw => by
    obtain ⟨hne, hcw⟩ := hw c (by simp)
    obtain ⟨m1, m2⟩ := many_of hne hcw
    rw [List.flatMap_cons, List.append_assoc] at hS
    have h1 := run_line (S := S) (line := doW ++ 32 :: joinS c) (rest := l.flatMap cmdL ++ rest) (n := n) (st := ⟨last, a⟩) (st' := ⟨2, { a with commands := a.commands ++ [c] }⟩)
      (by rw [hS]; simp [cmdL, doW]) (by
        have := join_line hcw
        simp [doW, this]) (fun s hs => line_of hs (by decide) (by decide) (by rcases hl with rfl | rfl <;> rfl) (by
          simp only [takeS, m1, m2]; rfl))
    obtain ⟨n', last', h2, h3⟩ := run_commands l ⟨(l.flatMap cmdL ++ rest).toArray⟩ rest (n + 1) 2 { a with commands := a.commands ++ [c] } rfl (.inr rfl) (fun x hx => hw x (by simp [hx]))
    refine ⟨n', last', h2, ?_⟩
    rw [h1, h3]
    simp
theorem run_vars : ∀ (l : List VarV) (S : ByteArray) (rest : List UInt8) (n last : Nat) (a : ActionV), S.data.toList = l.flatMap varL ++ rest → (last = 1 ∨ last = 2 ∨ last = 3) → (∀ v ∈ l, Word v.name.data.toList ∧ (10 : UInt8) ∉ v.value.data.toList) →
    ∃ n' last', (last' = 1 ∨ last' = 2 ∨ last' = 3) ∧ runA S n ⟨last, a⟩ = runA ⟨rest.toArray⟩ n' ⟨last', { a with vars := a.vars ++ l }⟩
  | [], S, rest, n, last, a, hS, hl, _ => ⟨n, last, hl, by
      have : S = ⟨rest.toArray⟩ := bytes_eq (by rw [hS]; rfl)
      rw [this, List.append_nil]⟩
  | v :: l, S, rest, n, last, a, hS, hl, hw => by
    obtain ⟨hvn, hvv⟩ := hw v (by simp)
    obtain ⟨m1, m2, m3⟩ := two_of' (v := v.value.data.toList) hvn
    rw [List.flatMap_cons, List.append_assoc] at hS
    have h1 := run_line (S := S) (line := varW ++ 32 :: (v.name.data.toList ++ 32 :: v.value.data.toList)) (rest := l.flatMap varL ++ rest) (n := n) (st := ⟨last, a⟩) (st' := ⟨3, { a with vars := a.vars ++ [v] }⟩)
      (by rw [hS]; simp [varL, varW]) (by
        have := hvn.line
        simp [varW, this, hvv]) (fun s hs => line_of hs (by decide) (by decide) (by rcases hl with rfl | rfl | rfl <;> rfl) (by
          simp only [takeS, m1, m2, m3, mk_eq]; rfl))
    obtain ⟨n', last', h2, h3⟩ := run_vars l ⟨(l.flatMap varL ++ rest).toArray⟩ rest (n + 1) 3 { a with vars := a.vars ++ [v] } rfl (.inr (.inr rfl)) (fun x hx => hw x (by simp [hx]))
    refine ⟨n', last', h2, ?_⟩
    rw [h1, h3]
    simp
theorem run_outputs : ∀ (l : List ByteArray) (S : ByteArray) (rest : List UInt8) (n last : Nat) (a : ActionV), S.data.toList = l.flatMap outL ++ rest → (last = 1 ∨ last = 2 ∨ last = 3 ∨ last = 4) → (∀ p ∈ l, Word p.data.toList) →
    ∃ n' last', (last' = 1 ∨ last' = 2 ∨ last' = 3 ∨ last' = 4) ∧ runA S n ⟨last, a⟩ = runA ⟨rest.toArray⟩ n' ⟨last', { a with outputs := a.outputs ++ l }⟩
  | [], S, rest, n, last, a, hS, hl, _ => ⟨n, last, hl, by
      have : S = ⟨rest.toArray⟩ := bytes_eq (by rw [hS]; rfl)
      rw [this, List.append_nil]⟩
  | p :: l, S, rest, n, last, a, hS, hl, hw => by
    have hp := hw p (by simp)
    have m1 := one_of hp
    rw [List.flatMap_cons, List.append_assoc] at hS
    have h1 := run_line (S := S) (line := outW ++ 32 :: p.data.toList) (rest := l.flatMap outL ++ rest) (n := n) (st := ⟨last, a⟩) (st' := ⟨4, { a with outputs := a.outputs ++ [p] }⟩)
      (by rw [hS]; simp [outL, outW]) (by
        have := hp.line
        simp [outW, this]) (fun s hs => line_of hs (by decide) (by decide) (by rcases hl with rfl | rfl | rfl | rfl <;> rfl) (by
          simp only [takeS, m1, mk_eq]; rfl))
    obtain ⟨n', last', h2, h3⟩ := run_outputs l ⟨(l.flatMap outL ++ rest).toArray⟩ rest (n + 1) 4 { a with outputs := a.outputs ++ [p] } rfl (.inr (.inr (.inr rfl))) (fun x hx => hw x (by simp [hx]))
    refine ⟨n', last', h2, ?_⟩
    rw [h1, h3]
    simp
theorem run_needs : ∀ (l : List VarV) (S : ByteArray) (rest : List UInt8) (n last : Nat) (a : ActionV), S.data.toList = l.flatMap needL ++ rest → (last = 1 ∨ last = 2 ∨ last = 3 ∨ last = 4 ∨ last = 5) → (∀ v ∈ l, Word v.name.data.toList ∧ (10 : UInt8) ∉ v.value.data.toList) →
    ∃ n' last', (last' = 1 ∨ last' = 2 ∨ last' = 3 ∨ last' = 4 ∨ last' = 5) ∧ runA S n ⟨last, a⟩ = runA ⟨rest.toArray⟩ n' ⟨last', { a with needs := a.needs ++ l }⟩
  | [], S, rest, n, last, a, hS, hl, _ => ⟨n, last, hl, by
      have : S = ⟨rest.toArray⟩ := bytes_eq (by rw [hS]; rfl)
      rw [this, List.append_nil]⟩
  | v :: l, S, rest, n, last, a, hS, hl, hw => by
    obtain ⟨hvn, hvv⟩ := hw v (by simp)
    obtain ⟨m1, m2, m3⟩ := two_of' (v := v.value.data.toList) hvn
    rw [List.flatMap_cons, List.append_assoc] at hS
    have h1 := run_line (S := S) (line := needW ++ 32 :: (v.name.data.toList ++ 32 :: v.value.data.toList)) (rest := l.flatMap needL ++ rest) (n := n) (st := ⟨last, a⟩) (st' := ⟨5, { a with needs := a.needs ++ [v] }⟩)
      (by rw [hS]; simp [needL, needW]) (by
        have := hvn.line
        simp [needW, this, hvv]) (fun s hs => line_of hs (by decide) (by decide) (by rcases hl with rfl | rfl | rfl | rfl | rfl <;> rfl) (by
          simp only [takeS, m1, m2, m3, mk_eq]; rfl))
    obtain ⟨n', last', h2, h3⟩ := run_needs l ⟨(l.flatMap needL ++ rest).toArray⟩ rest (n + 1) 5 { a with needs := a.needs ++ [v] } rfl (.inr (.inr (.inr (.inr rfl)))) (fun x hx => hw x (by simp [hx]))
    refine ⟨n', last', h2, ?_⟩
    rw [h1, h3]
    simp
theorem action_back {a : ActionV} (h : checkActionS a = 0) : runA ⟨(actTextL a).toArray⟩ 1 ⟨0, noAction⟩ = .ok a := by
  have hp := action_parts h
  obtain ⟨tm, htm⟩ : ∃ tm : Nat, a.time = (tm : Int) := ⟨a.time.toNat, by have := hp.time; omega⟩
  have ht1 := hp.time
  obtain ⟨k1, k2⟩ := numS_itoa tm (by omega)
  have w1 := itoa_word tm
  have h1 := run_line (S := ⟨(actTextL a).toArray⟩) (line := toolW ++ 32 :: a.tool.data.toList) (rest := a.commands.flatMap cmdL ++ (a.vars.flatMap varL ++ (a.outputs.flatMap outL ++ (a.needs.flatMap needL ++ timeL a)))) (n := 1) (st := ⟨0, noAction⟩)
    (st' := ⟨1, ⟨a.tool, [], [], [], [], 0⟩⟩) (by simp [actTextL, toolL, toolW]) (by
      have := hp.tool.line
      simp [toolW, this]) (fun s hs => line_of hs (by decide) (by decide) rfl (by simp only [takeS, one_of hp.tool, mk_eq]; rfl))
  obtain ⟨n2, l2, hl2, h2'⟩ := run_commands a.commands ⟨(a.commands.flatMap cmdL ++ (a.vars.flatMap varL ++ (a.outputs.flatMap outL ++ (a.needs.flatMap needL ++ timeL a)))).toArray⟩ _ (1 + 1) 1 ⟨a.tool, [], [], [], [], 0⟩ rfl (.inl rfl) hp.commands
  have h2 : _ = runA _ n2 ⟨l2, ⟨a.tool, a.commands, [], [], [], 0⟩⟩ := h2'
  obtain ⟨n3, l3, hl3, h3'⟩ := run_vars a.vars ⟨(a.vars.flatMap varL ++ (a.outputs.flatMap outL ++ (a.needs.flatMap needL ++ timeL a))).toArray⟩ _ n2 l2 ⟨a.tool, a.commands, [], [], [], 0⟩ rfl (by omega) hp.vars
  have h3 : _ = runA _ n3 ⟨l3, ⟨a.tool, a.commands, a.vars, [], [], 0⟩⟩ := h3'
  obtain ⟨n4, l4, hl4, h4'⟩ := run_outputs a.outputs ⟨(a.outputs.flatMap outL ++ (a.needs.flatMap needL ++ timeL a)).toArray⟩ _ n3 l3 ⟨a.tool, a.commands, a.vars, [], [], 0⟩ rfl (by omega) hp.outputs
  have h4 : _ = runA _ n4 ⟨l4, ⟨a.tool, a.commands, a.vars, a.outputs, [], 0⟩⟩ := h4'
  obtain ⟨n5, l5, hl5, h5'⟩ := run_needs a.needs ⟨(a.needs.flatMap needL ++ timeL a).toArray⟩ _ n4 l4 ⟨a.tool, a.commands, a.vars, a.outputs, [], 0⟩ rfl (by omega) hp.needs
  have h5 : _ = runA _ n5 ⟨l5, ⟨a.tool, a.commands, a.vars, a.outputs, a.needs, 0⟩⟩ := h5'
  have h6 := run_line (S := ⟨(timeL a).toArray⟩) (line := timeW ++ 32 :: Lib.itoa (tm : Int)) (rest := []) (n := n5) (st := ⟨l5, ⟨a.tool, a.commands, a.vars, a.outputs, a.needs, 0⟩⟩)
    (st' := ⟨6, ⟨a.tool, a.commands, a.vars, a.outputs, a.needs, (tm : Int)⟩⟩) (by simp [timeL, timeW, htm]) (by
      have := w1.line
      simp [timeW, this]) (fun s hs => line_of hs (by decide) (by decide) (by rcases hl5 with rfl | rfl | rfl | rfl | rfl <;> rfl) (by
        simp only [takeS, k1, k2]
        rfl))
  rw [h1, h2, h3, h4, h5, h6, runA_end (by rfl), doneA, if_pos rfl, ← htm]
end Go.Proofs.Sm

namespace Go.Proofs.Sm
open Go.RowKit

theorem back_readA {a : ActionV} (h : checkActionS a = 0) : readActS (actTextS a) = (a, 0, 0) ∧ (actTextS a).size ≤ 2000000 := by
  have h1 := actText_length (checkAction_ok h)
  have e : actTextS a = ⟨(actTextL a).toArray⟩ := by rw [actTextS, if_pos h]
  have e2 : (actTextS a).size = (actTextL a).length := by rw [e]; simp [ByteArray.size]
  refine ⟨?_, by omega⟩
  refine readAct_right (by rw [e2]; omega) ?_ h
  rw [e]; exact action_back h
theorem back_wroteA {T : ByteArray} {x : ActionV} {k : Int} (h : readActS T = (x, k, 0)) : checkActionS x = 0 ∧ actTextS x = T := by
  by_cases hl : (2000000 : Int) < T.size
  · rw [readAct_large hl] at h; cases h
  · cases hr : runA T 1 ⟨0, noAction⟩ with
    | error p => rw [readAct_bad hl hr] at h; cases h
    | ok r =>
      by_cases hc : checkActionS r = 0
      · rw [readAct_right hl hr hc] at h
        cases h
        exact ⟨hc, by rw [actTextS, if_pos hc, action_wrote hr]⟩
      · rw [readAct_wrong hl hr hc] at h
        simp only [Prod.mk.injEq] at h
        exact absurd h.2.2 hc
theorem back_noneA {T : ByteArray} {x : ActionV} {k f : Int} (h : readActS T = (x, k, f)) (hf : f ≠ 0) : x = noAction := by
  by_cases hl : (2000000 : Int) < T.size
  · rw [readAct_large hl] at h; cases h; rfl
  · cases hr : runA T 1 ⟨0, noAction⟩ with
    | error p => rw [readAct_bad hl hr] at h; cases h; rfl
    | ok r =>
      by_cases hc : checkActionS r = 0
      · rw [readAct_right hl hr hc] at h; cases h; exact absurd rfl hf
      · rw [readAct_wrong hl hr hc] at h; cases h; rfl
set_option maxHeartbeats 4000000 in
set_option maxRecDepth 100000 in
theorem law_backA (a : ActionV) (A : Option Addr) (n n' : Nat) (B : Option Addr) (m m' : Nat) (C : Option Addr) (p p' : Nat) (D : Option Addr) (q q' : Nat) (T : ByteArray) (w : World) (hE : Env3 w) (hE2 : Env2 w) (hr : ActIs w a A n B m C p D q) (hs : T.size ≤ maxLen) :
    Calls Tryz.prog 4 #[actVal a A n n' B m m' C p p' D q q', .string T] w fun e w' => e = .returned (.bool true) ∧ Below w.heap.size w w' := by
  have hb0 := fr_alloc (fr_refl w) (.cells #[.string a.tool, .slice A n n', .slice B m m', .slice C p p', .slice D q q', .int .i64 a.time] 26)
  have HC1 := Lib.hid (act_Text a A n n' B m m' C p p' D q q' _ (hE2.then_ hb0) (hr.then_ hb0))
  unfold actVal at HC1 ⊢
  have hx0 := heap_alloc_new w (.cells #[.string a.tool, .slice A n n', .slice B m m', .slice C p p', .slice D q q', .int .i64 a.time] 26 (0, 0))
  cases h0 : (checkActionS a == 0)
  · have hn0 : (checkActionS a != 0) = true := by rw [bne, h0]; rfl
    go_enter Tryz.func4, Tryz.ntmps4
    go_wp2_with fail
    refine HC1.out.mono ?_
    rintro e w1 ⟨rfl, hb1⟩
    have hbel := fr_call hb0 hb1
    generalize checkActionS a = F0 at h0 hn0
    generalize actTextS a = S0
    clear HC1 hb0 hb1 hx0
    have HT := Lib.hid hbel
    go_wp2_with fail
    refine (act_Read T _ (hE.then_ hbel) hs).mono ?_
    rintro e w3 ⟨A2, n2, n2', B2, m2, m2', C2, p2, p2', D2, q2, q2', rfl, hr3, _, hb3⟩
    have hbel3 := fr_call hbel hb3
    generalize hx : readActS T = X at hr3 ⊢
    obtain ⟨x, k, f⟩ := X
    simp only at hr3
    unfold actVal
    cases hf : (f == 0)
    · have hfn : (f != 0) = true := by rw [bne, hf]; rfl
      have hf0 : f ≠ 0 := by simpa using hf
      obtain rfl := back_noneA hx hf0
      clear hx hr3 hf0
      unfold noAction
      go_wp2_with fail
      refine (law5_awake _ (hE.then_ (fr_alloc hbel3 _)).toEnv).mono ?_
      rintro e w5 ⟨rfl, hb5⟩
      go_wp2
      go_ret
      exact ⟨rfl, fr_call (fr_alloc hbel3 _) hb5⟩
    · have hf0 : f = 0 := by simpa using hf
      subst hf0
      obtain ⟨h1, h2⟩ := back_wroteA hx
      have hr4 := hr3.then_ (fr_alloc (fr_refl w3) (.cells #[.string x.tool, .slice A2 n2 n2', .slice B2 m2 m2', .slice C2 p2 p2', .slice D2 q2 q2', .int .i64 x.time] 26))
      have HC := Lib.hid (act_Text x A2 n2 n2' B2 m2 m2' C2 p2 p2' D2 q2 q2' _ (hE2.then_ (fr_alloc hbel3 (.cells #[.string x.tool, .slice A2 n2 n2', .slice B2 m2 m2', .slice C2 p2 p2', .slice D2 q2 q2', .int .i64 x.time] 26))) hr4)
      rw [h1, h2] at HC
      unfold actVal at HC
      clear hx hr3 hr4 h1 h2 hf
      go_wp2_with fail
      refine HC.out.mono ?_
      rintro e w5 ⟨rfl, hb5⟩
      go_wp2_with fail
      refine (law5_awake _ (hE.then_ (fr_call (fr_alloc hbel3 _) hb5)).toEnv).mono ?_
      rintro e w6 ⟨rfl, hb6⟩
      go_wp2
      go_ret
      exact ⟨rfl, fr_call (fr_call (fr_alloc hbel3 _) hb5) hb6⟩
  · have hz : checkActionS a = 0 := by simpa using h0
    obtain ⟨g1, g2⟩ := back_readA hz
    rw [hz] at HC1
    have HA := Lib.hid (fun w' (hE' : Env3 w') => act_Read (actTextS a) w' hE' (by unfold maxLen; omega))
    unfold ReadAnsA at HA
    rw [g1] at HA
    generalize actTextS a = S0 at HA HC1
    go_enter Tryz.func4, Tryz.ntmps4
    go_wp2_with fail
    refine HC1.out.mono ?_
    rintro e w1 ⟨rfl, hb1⟩
    have hbel1 := fr_call hb0 hb1
    have hx1 := (hb1.block _ (by simp)).trans hx0
    go_wp2_with fail
    refine (HA.out _ (hE.then_ hbel1)).mono ?_
    rintro e w2 ⟨A1, n1, n1', B1, m1, m1', C1, p1, p1', D1, q1, q1', rfl, hr2, _, hb2⟩
    unfold actVal
    have hx2 := (hb2.block _ (heap_lt hx1)).trans hx1
    have hbel2 := fr_alloc (fr_call hbel1 hb2) (.cells #[.string a.tool, .slice A1 n1 n1', .slice B1 m1 m1', .slice C1 p1 p1', .slice D1 q1 q1', .int .i64 a.time] 26)
    have hlt := heap_lt hx2
    have j0 : w2.cell? ⟨w.heap.size, 0, none⟩ = some (.string a.tool) := by rw [Lib.cell_of_heap hx2]; rfl
    have j1 : w2.cell? ⟨w.heap.size, 1, none⟩ = some (.slice A n n') := by rw [Lib.cell_of_heap hx2]; rfl
    have j2 : w2.cell? ⟨w.heap.size, 2, none⟩ = some (.slice B m m') := by rw [Lib.cell_of_heap hx2]; rfl
    have j3 : w2.cell? ⟨w.heap.size, 3, none⟩ = some (.slice C p p') := by rw [Lib.cell_of_heap hx2]; rfl
    have j4 : w2.cell? ⟨w.heap.size, 4, none⟩ = some (.slice D q q') := by rw [Lib.cell_of_heap hx2]; rfl
    have j5 : w2.cell? ⟨w.heap.size, 5, none⟩ = some (.int .i64 a.time) := by rw [Lib.cell_of_heap hx2]; rfl
    have HS := Lib.hid (ref5_SameAction a A1 A n1 n n1' n' B1 B m1 m m1' m' C1 C p1 p p1' p' D1 D q1 q q1' q' _ (hr2.then_ (fr_alloc (fr_refl w2) (.cells #[.string a.tool, .slice A1 n1 n1', .slice B1 m1 m1', .slice C1 p1 p1', .slice D1 q1 q1', .int .i64 a.time] 26))) (hr.then_ hbel2))
    unfold actVal at HS
    clear HC1 HA hx0 hx1 hx2 hr2 h0 hz g1 g2
    go_wp2_with fail
    refine HS.out.mono ?_
    rintro e w2' ⟨rfl, hb2'⟩
    have hbel := fr_call hbel2 hb2'
    clear j0 j1 j2 j3 j4 j5 hlt HS hb0 hb1 hb2 hbel1
    have HT := Lib.hid hbel
    go_wp2_with fail
    refine (act_Read T _ (hE.then_ hbel) hs).mono ?_
    rintro e w3 ⟨A2, n2, n2', B2, m2, m2', C2, p2, p2', D2, q2, q2', rfl, hr3, _, hb3⟩
    have hbel3 := fr_call hbel hb3
    generalize hx : readActS T = X at hr3 ⊢
    obtain ⟨x, k, f⟩ := X
    simp only at hr3
    unfold actVal
    cases hf : (f == 0)
    · have hfn : (f != 0) = true := by rw [bne, hf]; rfl
      have hf0 : f ≠ 0 := by simpa using hf
      obtain rfl := back_noneA hx hf0
      clear hx hr3 hf0
      unfold noAction
      go_wp2_with fail
      refine (law5_awake _ (hE.then_ (fr_alloc hbel3 _)).toEnv).mono ?_
      rintro e w5 ⟨rfl, hb5⟩
      go_wp2
      go_ret
      exact ⟨rfl, fr_call (fr_alloc hbel3 _) hb5⟩
    · have hf0 : f = 0 := by simpa using hf
      subst hf0
      obtain ⟨h1, h2⟩ := back_wroteA hx
      have hr4 := hr3.then_ (fr_alloc (fr_refl w3) (.cells #[.string x.tool, .slice A2 n2 n2', .slice B2 m2 m2', .slice C2 p2 p2', .slice D2 q2 q2', .int .i64 x.time] 26))
      have HC := Lib.hid (act_Text x A2 n2 n2' B2 m2 m2' C2 p2 p2' D2 q2 q2' _ (hE2.then_ (fr_alloc hbel3 (.cells #[.string x.tool, .slice A2 n2 n2', .slice B2 m2 m2', .slice C2 p2 p2', .slice D2 q2 q2', .int .i64 x.time] 26))) hr4)
      rw [h1, h2] at HC
      unfold actVal at HC
      clear hx hr3 hr4 h1 h2 hf
      go_wp2_with fail
      refine HC.out.mono ?_
      rintro e w5 ⟨rfl, hb5⟩
      go_wp2_with fail
      refine (law5_awake _ (hE.then_ (fr_call (fr_alloc hbel3 _) hb5)).toEnv).mono ?_
      rintro e w6 ⟨rfl, hb6⟩
      go_wp2
      go_ret
      exact ⟨rfl, fr_call (fr_call (fr_alloc hbel3 _) hb5) hb6⟩
end Go.Proofs.Sm

namespace Go.Proofs.YtiajmcmncafecaaGreatDoor.actback
open Go.ChangeShapes Go.WideShapes Go.ChangeAt Go.RowKit Go.Proofs.Sm

noncomputable def laidWorld (os : Os) : World := errWorld (tableWorld os [(4, Rows.laid_unicode_utf8_first), (5, Rows.laid_unicode_utf8_acceptRanges), (3, Rows.laid_internal_strconv_uint64pow10), (6, Rows.laid_math_bits_deBruijn32tab), (7, Rows.laid_math_bits_deBruijn64tab)])
  149 151 [(2, [118, 97, 108, 117, 101, 32, 111, 117, 116, 32, 111, 102, 32, 114, 97, 110, 103, 101]), (1, [105, 110, 118, 97, 108, 105, 100, 32, 115, 121, 110, 116, 97, 120])]
def arg0 : Value := .agg #[.string ⟨#[]⟩, .slice none 0 0, .slice none 0 0, .slice none 0 0, .slice none 0 0, .int .i64 0]
theorem laid_met (os : Os) (args : Array Value) : laidMet Tryz.prog Rows.actionTextsComeBackRow.laid ((laidWorld os).forCall (fun _ _ => 0) ⟨#[], args, []⟩).memory :=
  (LaidIn.of_run (l := Rows.actionTextsComeBackRow.laid) (List.range 30) 8 (by kernel_rfl) (by kernel_rfl) (by kernel_rfl) (by kernel_rfl)).met
theorem reads (os : Os) {H : Type} (enc : TypeId × Value → H) : ∃ ds places, DataW.whole enc Tryz.prog ((laidWorld os).forCall (fun _ _ => 0) ⟨#[], #[arg0, .string ⟨#[]⟩], []⟩).memory Tryz.f4.params.toList Rows.actionTextsComeBackSpec.vars false #[arg0, .string ⟨#[]⟩].toList 8 = some (ds, [], places) :=
  ⟨[.agg [.lit (.string []), .nil, .nil, .nil, .nil, .lit (.int .i64 0)], .lit (.string [])], [], by kernel_rfl⟩

set_option maxRecDepth 100000 in
theorem contract (H : Type) (enc : TypeId × Value → H) (W : World) (base : Nat) (args : Array Value) (ds gs : List (DataW H)) (before : List MemPlace)
    (hval : ∀ (j : Nat) t v, Tryz.f4.params[j]? = some t → args[j]? = some v → Value.okWide Tryz.prog W .any base t v)
    (hW : DataW.Whole enc Tryz.prog Tryz.f4.params.toList Rows.actionTextsComeBackSpec.vars false W args.toList ds gs before) (hE : Env3 W) (hE2 : Env2 W) :
    Calls Tryz.prog 4 args W fun e W' => ∃ v, e = .returned v ∧ Rows.actionTextsComeBackSpec.post enc Tryz.prog Tryz.f4 false true false false W args v W' := by
  have hW' := hW
  obtain ⟨p, q, hA0, hV, rfl, hfz, hnd⟩ := hW
  have hA : DataW.TrodAll enc Tryz.prog W 0 (fun _ => true) true Tryz.f4.params.toList args.toList ds p := hA0
  rw [Tryz.params4] at hA hval
  obtain ⟨v0, vs0, d0, ds0, p0, q0, hargs, rfl, rfl, h0, r0⟩ := trodAll_cons hA
  obtain ⟨v1, vs1, d1, ds1, p1, q1, rfl, rfl, rfl, h1, r1⟩ := trodAll_cons r0
  obtain ⟨rfl, rfl, rfl⟩ := trodAll_nil r1
  obtain rfl : args = #[v0, v1] := by cases args; simp_all
  obtain ⟨rfl, rfl⟩ := trodVars_none hV
  have k0 := h0
  have k1 := h1
  have lt0 : ∀ x ∈ p0, x.block < W.heap.size := by obtain ⟨m, hm⟩ := k0; exact DataW.trod_lt m _ _ _ hm
  have lt1 : ∀ x ∈ p1, x.block < W.heap.size := by obtain ⟨m, hm⟩ := k1; exact DataW.trod_lt m _ _ _ hm
  obtain ⟨cs, rfl, hsz⟩ := okWide_struct Tryz.underlying26 (hval 0 26 v0 rfl rfl)
  obtain ⟨fuel, hf⟩ := h0
  obtain ⟨a, A, n, n', B, m, m', C, k, k', D, r, r', hr, hcs⟩ := action_of hf
  obtain ⟨l⟩ := cs
  obtain rfl : l = _ := hcs
  obtain ⟨s, rfl⟩ := okWide_string Tryz.underlying9 (hval 1 9 v1 rfl rfl)
  have hs : s.size ≤ maxLen := by
    obtain ⟨fuel', hf'⟩ := h1
    obtain ⟨s', e', _, z'⟩ := DataW.trod_string Tryz.underlying9 hf'
    have : s = s' := by simpa [Value.cells] using e'
    rw [this]; exact z'
  clear hA0 hf hsz
  refine (law_backA a A n n' B m m' C k k' D r r' s W hE hE2 hr hs).mono fun e W' ⟨he, bel⟩ => ?_
  subst he
  exact ⟨_, rfl, _, _, _, [], _, [], hW', trodAll_mk1 (shut_bool Tryz.underlying4 _), (trodAll_cons_mk (Below.trod laidOut (by kernel_rfl) (of_decide_eq_true (by kernel_rfl)) k0 bel lt0) (trodAll_cons_mk (Below.trod laidOut (by kernel_rfl) (of_decide_eq_true (by kernel_rfl)) k1 bel lt1) trodAll_mk0)), rfl, bel.frame _, fun h => by cases h⟩

set_option maxRecDepth 100000 in
theorem lifted (os : Os) (started : os.Started) (H : Type) (enc : TypeId × Value → H) (F : Stop.Interp) :
    ReturnsInHanded {} Tryz.checked os 4 .any ((OpenSpec.ofChange Rows.actionTextsComeBackSpec).preRow enc Tryz.prog Tryz.f4 Rows.actionTextsComeBackRow.domain false Rows.actionTextsComeBackRow.laid) (((OpenSpec.ofChange Rows.actionTextsComeBackSpec).at F).post enc Tryz.prog Tryz.f4 false true false false) := by
  obtain ⟨d, places, hx⟩ := reads os enc
  refine returnsInHanded_of_row (C := Tryz.checked) (s := OpenSpec.ofChange Rows.actionTextsComeBackSpec) own started (by kernel_rfl) Tryz.func4
    (witness_row_atRef (enc := enc) (C := Tryz.checked) false (laidWorld os) #[arg0, .string ⟨#[]⟩] rfl (by kernel_rfl) (by kernel_rfl) (by kernel_rfl)
      (OpenSpec.preRow_of_cond 8 hx (by kernel_rfl) (fun k hk => by cases hk) (by kernel_rfl) (laid_met os _))) ?_
  intro W base args ds gs before hval hW _ _ _ hL hS _
  exact contract H enc W base args ds gs before hval hW (env3_of hL hS (by simp [Rows.actionTextsComeBackRow, Rows.laid_unicode_utf8_first]) (by simp [Rows.actionTextsComeBackRow]) (show laidMet Tryz.prog Rows.actionTextsComeBackRow.laid W from hL).tail.tail.tail.tail) (env2_of hL hS (by simp [Rows.actionTextsComeBackRow, Rows.laid_unicode_utf8_first]) (by simp [Rows.actionTextsComeBackRow]) (by simp [Rows.actionTextsComeBackRow]))

theorem said : Rows.ActionTextsComeBackSaid :=
  OpenClaim.holds_of_cond 4 Tryz.f4 rfl rfl rfl rfl rfl rfl rfl ⟨rfl, rfl, rfl, rfl, rfl⟩ rfl rfl rfl rfl rfl (by kernel_rfl) Tryz.func4 closed
    (of_decide_eq_true (by as_aux_lemma => kernel_rfl)) (by unfold Func.isWrapper; first | (rw [if_pos (by decide +kernel)]; kernel_rfl) | (rw [if_neg (by decide +kernel)]; exact ⟨rfl, rfl⟩))
    (fun os started H enc _ F => by rw [OpenClaim.pre_eq_preRow]; exact lifted os started H enc F)

theorem plain (f : FuncId) (fn : Func) (hf : Tryz.pinned.checked.prog.funcNamed Rows.actionTextsComeBackRow.func = some f) (hfn : Tryz.pinned.checked.prog.funcs[f]? = some fn) :
    true = Tryz.pinned.checked.prog.looks [] ∧ ∀ (j : Nat) t, fn.params[j]? = some t → Tryz.pinned.checked.prog.wantsStandIn t = false := by
  obtain rfl : f = 4 := Option.some.inj ((show Tryz.prog.funcNamed Rows.actionTextsComeBackRow.func = some 4 by kernel_rfl).symm.trans hf) |>.symm
  obtain rfl : fn = Tryz.f4 := (Option.some.inj (Tryz.func4.symm.trans hfn)).symm
  refine ⟨by kernel_rfl, fun j t ht => ?_⟩
  rw [Tryz.params4] at ht
  have hm : t = 26 ∨ t = 9 := by simpa using Array.mem_of_getElem? ht
  rcases hm with rfl | rfl
  · exact (show Tryz.prog.wantsStandIn 26 = false by kernel_rfl)
  · exact (show Tryz.prog.wantsStandIn 9 = false by kernel_rfl)

/-- The card. -/
theorem card : Rows.ActionTextsComeBackCardSaid :=
  Claim7.holds_tied_plain_at .later [] _ _ _ _ said (fun _ h => by cases h) (by as_aux_lemma => kernel_rfl) (fun _ h => by cases h) actionTextsComeBack_row_tie rfl ⟨rfl, rfl⟩ (by as_aux_lemma => kernel_rfl) rfl plain (by as_aux_lemma => kernel_rfl)
end Go.Proofs.YtiajmcmncafecaaGreatDoor.actback
