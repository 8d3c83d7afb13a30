/- Walks: the reference's look at looks. -/
import Derived.Test.YtkdogcpgbogkhaaGreatDoorH18x4
import Derived.Test.YtkdogcpgbogkhaaGreatDoorH18x3
import Derived.Test.YtkdogcpgbogkhaaGreatDoorH18x1
import Derived.Shelf.Strings.SlTrimAscii
import Derived.Test.YtkdogcpgbogkhaaGreatDoorH18x2
namespace Go.Proofs.Sm
open Go.RowKit

section
variable {F : List FileV}
theorem asks_made (hF : ∀ x ∈ F, IsP x.path) (vars : List VarV) {c : List ByteArray} (h : CmdPaths c) (h1 : ¬ (wordAt c 0).data.toList = [116, 101, 108, 108]) (h2 : ¬ (wordAt c 0).data.toList = [102, 97, 105, 108]) : Asks IsP F (madeE vars c) := by
  unfold madeE
  dsimp only
  split
  · rename_i e; exact asks_joined _ _ (h.join e)
  split
  · rename_i e; exact (asks_file (fun _ h => h) _ _ _ _ _ (h.expand e)).bind fun x => asks_ret _
  split
  · rename_i e; exact asks_pick _ (h.pick e)
  split
  · rename_i e; exact (asks_list hF (h.list e)).bind fun _ => asks_ret _
  split
  · exact asks_ret _
  · rename_i e
    refine (asks_read (h.last h1 h2 e)).bind fun x => ?_
    split <;> exact asks_ret _
theorem asks_do (hF : ∀ x ∈ F, IsP x.path) (a : ActionV) {c : List ByteArray} (h : CmdPaths c) : Asks IsP F (doE a c) := by
  unfold doE
  dsimp only
  split
  · exact asks_tell _
  split
  · rename_i e; exact (asks_read (h.need e)).bind fun x => asks_ret _
  split
  · rename_i e
    unfold sameE
    refine (asks_read (h.same e).1).bind fun x => ?_
    split
    · refine (asks_read (h.same e).2).bind fun y => ?_
      split
      · split <;> exact asks_ret _
      · exact asks_ret _
    · exact asks_ret _
  split
  · exact asks_ret _
  · rename_i e1 _ _ e2
    refine (asks_made hF a.vars h e1 e2).bind fun x => ?_
    split
    · exact asks_write _ _ _ _
    · exact asks_ret _
theorem asks_run (hF : ∀ x ∈ F, IsP x.path) (a : ActionV) : ∀ (l : List (List ByteArray)) (i : Nat), (∀ c ∈ l, CmdPaths c) → Asks IsP F (runE a l i)
  | [], _, _ => asks_own fun _ => rfl
  | c :: rest, i, h => by
    unfold runE
    refine (asks_do hF a (h c (by simp))).bind fun x => ?_
    split
    · exact asks_run hF a rest (i + 1) fun c' hc' => h c' (by simp [hc'])
    · exact asks_ret _
end
theorem digest_right (l : List UInt8) : isDigestS (digestS l) = true := by
  have hc : ∀ d : Fin 16, hexB (hexChar d.val) = true := by decide +kernel
  unfold isDigestS digestS
  rw [Bool.and_eq_true]
  refine ⟨?_, by simp [ByteArray.size]⟩
  rw [List.all_eq_true]
  intro c hcm
  simp only [List.mem_map] at hcm
  obtain ⟨i, _, rfl⟩ := hcm
  exact hc ⟨fnv l / 16 ^ (15 - i) % 16, Nat.mod_lt _ (by decide)⟩
theorem digest_some (l : List UInt8) : (digestS l).toList.isEmpty = false := by
  have h1 : (digestS l).data.toList.length = 16 := by unfold digestS; simp
  rw [Lib.toList_data]
  cases h : (digestS l).data.toList with
  | nil => rw [h] at h1; cases h1
  | cons a r => rfl
theorem lookErr_from {F : List FileV} {y : Look} (h : y = lookAtS F y.path) (hp : IsP y.path) (prev : Option ByteArray) : lookErr prev y = if notAfter prev y.path then 8 else 0 := by
  have hp' : isPathS y.path = true := hp
  have hd : (y.digest.toList.isEmpty = true ∧ y.run = false) ∨ (y.digest.toList.isEmpty = false ∧ isDigestS y.digest = true) := by
    unfold lookAtS at h
    split at h
    · rw [h]; exact .inl ⟨by rw [Lib.toList_data]; rfl, rfl⟩
    · rename_i x _
      rw [h]; exact .inr ⟨digest_some _, digest_right _⟩
  unfold lookErr
  rw [if_neg (by rw [hp']; decide)]
  rcases hd with ⟨h1, h2⟩ | ⟨h1, h2⟩
  · rw [if_neg (by rw [h1]; simp), if_neg (by rw [h2]; simp)]
  · rw [if_neg (by rw [h1, h2]; decide), if_neg (by rw [h1]; simp)]
theorem looksErr_from {F : List FileV} : ∀ {l : List Look} {prev : Option ByteArray}, ByPath Look.path l → (∀ y ∈ l, y = lookAtS F y.path ∧ IsP y.path) → (∀ q, prev = some q → ∀ y ∈ l, ltS q y.path = true) → looksErr prev l = 0
  | [], _, _, _, _ => rfl
  | y :: l, prev, hs, he, hp => by
    unfold ByPath at hs
    rw [List.pairwise_cons] at hs
    have h0 : notAfter prev y.path = false := by
      cases prev with
      | none => rfl
      | some q =>
        have h1 : ltS q y.path = true := hp q rfl y (by simp)
        show leS y.path q = false
        unfold leS
        have h2 : Op.bytesLess y.path.toList q.toList = false := by
          cases h3 : Op.bytesLess y.path.toList q.toList
          · rfl
          · have := ltS_trans (x := y.path) (y := q) (z := y.path) h3 h1
            rw [ltS_irrefl] at this; cases this
        have h4 : (y.path.toList == q.toList) = false := by
          cases h3 : (y.path.toList == q.toList)
          · rfl
          · have e : y.path.toList = q.toList := by simpa using h3
            rw [ltS_eq_r (z := q) e, ltS_irrefl] at h1; cases h1
        rw [h2, h4]; rfl
    have h1 := lookErr_from (he y (by simp)).1 (he y (by simp)).2 prev
    rw [h0] at h1
    have h1 : lookErr prev y = 0 := h1
    rw [looksErr, if_pos h1]
    exact looksErr_from hs.2 (fun z hz => he z (by simp [hz])) fun q hq z hz => by
      cases hq
      exact hs.1 z hz
/-- all that is to be known of the looks of an action -/
structure LooksRight (a : ActionV) (F : List FileV) : Prop where
  from_ : LooksFrom F IsP (runE a a.commands 0 F startS).2
  many : (execS a F).looks.length ≤ 3500
  right : checkLooksS (execS a F).looks = 0
  stand : (execS a F).looks.map (fun y => lookAtS F y.path) = (execS a F).looks
theorem looks_right {a : ActionV} {F : List FileV} (hc : ∀ c ∈ a.commands, checkCommandS c = 0) (hl : a.commands.length ≤ 50) (hF : ∀ x ∈ F, IsP x.path) (hn : F.length ≤ 1000) : LooksRight a F := by
  have h1 := asks_run hF a a.commands 0 (fun c h => cmd_paths (hc c h)) startS ⟨List.Pairwise.nil, fun y hy => by cases hy⟩
  have h2 : missS F (runE a a.commands 0 F startS).2.looks + 0 ≤ missS F startS.looks + (0 + 50 * a.commands.length) := miss_run (F := F) a a.commands 0 0 (fun c h => (cmd_paths (hc c h)).many) startS
  have h3 : missS F startS.looks = 0 := rfl
  have h4 := looks_count h1
  have h5 : (execS a F).looks.length ≤ 3500 := by
    show (runE a a.commands 0 F startS).2.looks.length ≤ 3500
    omega
  refine ⟨h1, h5, ?_, ?_⟩
  · rw [checkLooksS, if_neg (by omega)]
    exact looksErr_from h1.sorted h1.each fun q hq => by cases hq
  · show ((runE a a.commands 0 F startS).2.looks.map fun y => lookAtS F y.path) = (runE a a.commands 0 F startS).2.looks
    have h6 : ∀ y ∈ (runE a a.commands 0 F startS).2.looks, lookAtS F y.path = y := fun y hy => (h1.each y hy).1.symm
    generalize (runE a a.commands 0 F startS).2.looks = l at h6
    clear h1 h2 h3 h4 h5
    induction l with
    | nil => rfl
    | cons y l ih => rw [List.map_cons, h6 y (by simp), ih fun z hz => h6 z (by simp [hz])]
end Go.Proofs.Sm

namespace Go.Proofs.Sm
open Go.RowKit

/-- is a command expand -/
def isExpand (c : List ByteArray) : Bool := (wordAt c 0).data.toList == [101, 120, 112, 97, 110, 100]
/-- a path is a word of a command -/
def NamedIn (l : List (List ByteArray)) (p : ByteArray) : Prop := ∃ c ∈ l, p ∈ c
theorem wordAt_in {c : List ByteArray} {i : Nat} (h : i < c.length) : wordAt c i ∈ c := List.mem_of_getElem? (wordAt_mem h)
/-- how many words a right command has -/
theorem command_words {c : List ByteArray} (h : checkCommandS c = 0) : 2 ≤ c.length ∧ ((wordAt c 0).data.toList = [115, 97, 109, 101] ∨ (wordAt c 0).data.toList = [108, 105, 115, 116] → 3 ≤ c.length) := by
  obtain ⟨_, kinds, more, hf, h1, _, _⟩ := command_form h
  have hk : 1 ≤ kinds.length := by
    unfold formS at hf
    repeat' split at hf
    all_goals (try (cases hf; decide))
    cases hf
  refine ⟨by omega, fun e => ?_⟩
  rcases e with e | e
  all_goals
    rw [e] at hf
    cases hf
    simp at h1
    omega
section
variable {l : List (List ByteArray)} {c : List ByteArray}
theorem named_do (hc : c ∈ l) (h : checkCommandS c = 0) (a : ActionV) (hx : isExpand c = false) : Asks (NamedIn l) [] (doE a c) := by
  obtain ⟨h2, h3⟩ := command_words h
  have hx' : ¬ (wordAt c 0).data.toList = [101, 120, 112, 97, 110, 100] := by simpa [isExpand] using hx
  have hw : ∀ {i : Nat}, i < c.length → NamedIn l (wordAt c i) := fun hi => ⟨c, hc, wordAt_in hi⟩
  have hd : ∀ p ∈ c.drop 2, NamedIn l p := fun p hp => ⟨c, hc, List.mem_of_mem_drop hp⟩
  unfold doE
  dsimp only
  split
  · exact asks_tell _
  split
  · exact (asks_read (hw (by omega))).bind fun x => asks_ret _
  split
  · rename_i e
    have := h3 (.inl e)
    unfold sameE
    refine (asks_read (hw (by omega))).bind fun x => ?_
    split
    · refine (asks_read (hw (by omega))).bind fun y => ?_
      split
      · split <;> exact asks_ret _
      · exact asks_ret _
    · exact asks_ret _
  split
  · exact asks_ret _
  · have hm : Asks (NamedIn l) [] (madeE a.vars c) := by
      unfold madeE
      dsimp only
      split
      · exact asks_joined _ _ hd
      split
      · exact asks_pick _ hd
      split
      · rename_i e
        have := h3 (.inr e)
        exact (asks_list (fun x hx => by cases hx) (hw (by omega))).bind fun _ => asks_ret _
      split
      · exact asks_ret _
      · refine (asks_read (hw (by omega))).bind fun x => ?_
        split <;> exact asks_ret _
    refine hm.bind fun x => ?_
    split
    · exact asks_write _ _ _ _
    · exact asks_ret _
theorem named_run (a : ActionV) : ∀ (r : List (List ByteArray)) (i : Nat), (∀ c ∈ r, c ∈ l ∧ checkCommandS c = 0) → r.any isExpand = false → Asks (NamedIn l) [] (runE a r i)
  | [], _, _, _ => asks_own fun _ => rfl
  | c :: r, i, h, hx => by
    rw [List.any_cons, Bool.or_eq_false_iff] at hx
    unfold runE
    refine (named_do (h c (by simp)).1 (h c (by simp)).2 a hx.1).bind fun x => ?_
    split
    · exact named_run a r (i + 1) (fun c' hc' => h c' (by simp [hc'])) hx.2
    · exact asks_ret _
end
theorem needs_no_more {a : ActionV} (hc : ∀ c ∈ a.commands, checkCommandS c = 0) (hl : a.commands.length ≤ 50) : ∀ y ∈ (execS a []).looks, y.digest = ⟨#[]⟩ ∧ y.run = false ∧ (a.commands.any isExpand = false → NamedIn a.commands y.path) := by
  intro y hy
  have h1 := (looks_right (F := []) hc hl (fun x hx => by cases hx) (Nat.zero_le _)).from_.each y hy
  have h2 : y = ⟨y.path, ⟨#[]⟩, false⟩ := h1.1
  refine ⟨by rw [h2], by rw [h2], fun hx => ?_⟩
  have h3 := named_run (l := a.commands) a a.commands 0 (fun c h => ⟨h, hc c h⟩) hx startS ⟨List.Pairwise.nil, fun y hy => by cases hy⟩
  exact (h3.each y hy).2
end Go.Proofs.Sm

namespace Go.Proofs.Sm
open Go.RowKit

/-- what does not write and does not tell -/
def Quiet {α : Type} (m : Ex α) : Prop := ∀ F s, (m F s).2.written = s.written ∧ (m F s).2.told = s.told ∧ (m F s).2.total = s.total
section
variable {α β : Type}
theorem quiet_ret (a : α) : Quiet (Ex.ret a) := fun _ _ => ⟨rfl, rfl, rfl⟩
theorem Quiet.bind {m : Ex α} {f : α → Ex β} (h : Quiet m) (hf : ∀ a, Quiet (f a)) : Quiet (m.bind f) := fun F s => by
  have h1 := h F s
  have h2 := hf (m F s).1 F (m F s).2
  exact ⟨h2.1.trans h1.1, h2.2.1.trans h1.2.1, h2.2.2.trans h1.2.2⟩
theorem quiet_find (p : ByteArray) : Quiet (findE p) := fun F s => by unfold findE; split <;> exact ⟨rfl, rfl, rfl⟩
theorem quiet_read (p : ByteArray) : Quiet (readE p) := (quiet_find p).bind fun x => by cases x <;> exact quiet_ret _
theorem quiet_each {f : ByteArray → List UInt8 → Nat → Ex (List UInt8 × Nat × Int)} (hf : ∀ p o r, Quiet (f p o r)) : ∀ l o r, Quiet (eachE f l o r)
  | [], _, _ => quiet_ret _
  | s :: rest, o, r => by
    unfold eachE
    split
    · refine (hf _ o r).bind fun x => ?_
      split
      · exact quiet_each hf rest _ _
      · exact quiet_ret _
    · split
      · exact quiet_ret _
      · exact quiet_each hf rest _ _
theorem quiet_file : ∀ fuel inn p o r, Quiet (fileE fuel inn p o r)
  | 0, _, _, _, _ => quiet_ret _
  | fuel + 1, inn, p, o, r => by
    unfold fileE
    split
    · exact quiet_ret _
    · refine (quiet_read p).bind fun x => ?_
      split
      · split
        · exact quiet_ret _
        · exact quiet_each (fun p o r => quiet_file fuel _ p o r) _ _ _
      · exact quiet_ret _
theorem quiet_joined : ∀ l o, Quiet (joinedE l o)
  | [], _ => quiet_ret _
  | p :: rest, o => by
    unfold joinedE
    refine (quiet_read p).bind fun x => ?_
    split
    · exact quiet_joined rest _
    · exact quiet_ret _
theorem quiet_pick : ∀ l, Quiet (pickE l)
  | [] => quiet_ret _
  | p :: rest => by
    unfold pickE
    refine (quiet_find p).bind fun x => ?_
    cases x
    · exact quiet_pick rest
    · exact quiet_ret _
theorem quiet_lists (q : ByteArray) : ∀ l o, Quiet (listsE q l o)
  | [], _ => quiet_ret _
  | p :: rest, o => by
    unfold listsE
    split
    · exact (quiet_find p).bind fun _ => quiet_lists q rest _
    · exact quiet_lists q rest o
theorem quiet_list (q : ByteArray) : Quiet (listE q) := (quiet_find q).bind fun _ => fun F s => quiet_lists q (pathsS F s) [] F s
theorem quiet_made (vars : List VarV) (c : List ByteArray) : Quiet (madeE vars c) := by
  unfold madeE
  dsimp only
  split
  · exact quiet_joined _ _
  split
  · exact (quiet_file _ _ _ _ _).bind fun _ => quiet_ret _
  split
  · exact quiet_pick _
  split
  · exact (quiet_list _).bind fun _ => quiet_ret _
  split
  · exact quiet_ret _
  · refine (quiet_read _).bind fun x => ?_
    split <;> exact quiet_ret _
end
/-- what was written and told so far -/
structure WroteOk (a : ActionV) (s : ExSt) : Prop where
  sorted : ByPath FileV.path s.written
  own : ∀ x ∈ s.written, (∃ o ∈ a.outputs, o.toList = x.path.toList) ∧ x.bytes.length ≤ 100000 ∧ IsP x.path
  total : s.total = totalS s.written
  small : s.total ≤ 2000000
  told : s.told.all textB = true ∧ endsS s.told = true ∧ s.told.length ≤ 100000
def KeepsW (a : ActionV) {α : Type} (m : Ex α) : Prop := ∀ F s, WroteOk a s → WroteOk a (m F s).2
theorem Quiet.keepsW {α : Type} {m : Ex α} (h : Quiet m) (a : ActionV) : KeepsW a m := fun F s hs => by
  obtain ⟨h1, h2, h3⟩ := h F s
  exact ⟨by rw [h1]; exact hs.sorted, by rw [h1]; exact hs.own, by rw [h3, h1]; exact hs.total, by rw [h3]; exact hs.small, by rw [h2]; exact hs.told⟩
theorem KeepsW.bind {a : ActionV} {α β : Type} {m : Ex α} {f : α → Ex β} (h : KeepsW a m) (hf : ∀ x, KeepsW a (f x)) : KeepsW a (m.bind f) := fun F s hs => hf _ F _ (h F s hs)
theorem total_append (l m : List FileV) : totalS (l ++ m) = totalS l + totalS m := by unfold totalS; rw [List.map_append, List.sum_append]
theorem total_cons (x : FileV) (l : List FileV) : totalS (x :: l) = x.bytes.length + totalS l := by unfold totalS; rw [List.map_cons, List.sum_cons]
theorem put_total (p : ByteArray) : ∀ {l : List FileV}, ByPath FileV.path l → totalS (l.filter fun y => ltS y.path p) + totalS (l.filter fun y => ltS p y.path) + oldLen l p = totalS l
  | [], _ => rfl
  | y :: l, h => by
    unfold ByPath at h
    rw [List.pairwise_cons] at h
    have ih := put_total p (l := l) h.2
    rcases ltS_total y.path p with h1 | h1 | h1
    · have h2 : ltS p y.path = false := by
        cases h3 : ltS p y.path
        · rfl
        · have := ltS_trans h1 h3
          rw [ltS_irrefl] at this; cases this
      have h4 : eqp p y = false := by
        cases h3 : eqp p y
        · rfl
        · have e : y.path.toList = p.toList := by simpa [eqp] using h3
          rw [ltS_eq_l e, ltS_irrefl] at h1; cases h1
      have h5 : oldLen (y :: l) p = oldLen l p := by unfold oldLen; rw [List.find?_cons, h4]
      rw [List.filter_cons, if_pos h1, List.filter_cons, if_neg (by rw [h2]; simp), total_cons, total_cons, h5]
      omega
    · have h2 : ltS y.path p = false := by rw [ltS_eq_l h1]; exact ltS_irrefl _
      have h3 : ltS p y.path = false := by rw [ltS_eq_r h1]; exact ltS_irrefl _
      have h4 : eqp p y = true := by simpa [eqp] using h1
      have h5 : oldLen (y :: l) p = y.bytes.length := by unfold oldLen; rw [List.find?_cons, h4]
      have h6 : (l.filter fun z => ltS z.path p) = [] := by
        rw [List.filter_eq_nil_iff]
        intro z hz h7
        have h8 := h.1 z hz
        rw [ltS_eq_l h1] at h8
        have := ltS_trans h8 h7
        rw [ltS_irrefl] at this; cases this
      have h7 : (l.filter fun z => ltS p z.path) = l := by
        rw [List.filter_eq_self]
        intro z hz
        rw [← ltS_eq_l h1]
        exact h.1 z hz
      rw [List.filter_cons, if_neg (by rw [h2]; simp), List.filter_cons, if_neg (by rw [h3]; simp), total_cons, h5, h6, h7]
      show 0 + _ + _ = _
      omega
    · have h2 : ltS y.path p = false := by
        cases h3 : ltS y.path p
        · rfl
        · have := ltS_trans h1 h3
          rw [ltS_irrefl] at this; cases this
      have h4 : eqp p y = false := by
        cases h3 : eqp p y
        · rfl
        · have e : y.path.toList = p.toList := by simpa [eqp] using h3
          rw [ltS_eq_r e, ltS_irrefl] at h1; cases h1
      have h5 : oldLen (y :: l) p = oldLen l p := by unfold oldLen; rw [List.find?_cons, h4]
      rw [List.filter_cons, if_neg (by rw [h2]; simp), List.filter_cons, if_pos h1, total_cons, total_cons, h5]
      omega
theorem keepsW_write (a : ActionV) {p : ByteArray} (hp : ∀ o ∈ a.outputs, o.toList = p.toList → IsP p) (b : List UInt8) (run : Bool) : KeepsW a (writeE a.outputs p b run) := fun F s hs => by
  unfold writeE
  split
  · exact hs
  rename_i ho
  split
  · exact hs
  rename_i hl
  have hany : a.outputs.any (fun o => o.toList == p.toList) = true := by simpa using ho
  obtain ⟨o, hom, hoe⟩ := List.any_eq_true.1 hany
  have hoe : o.toList = p.toList := by simpa using hoe
  have h1 := put_total p hs.sorted
  have h2 : totalS (putFileS s.written ⟨p, run, b⟩) = totalS (s.written.filter fun y => ltS y.path p) + b.length + totalS (s.written.filter fun y => ltS p y.path) := by
    unfold putFileS
    rw [total_append, total_append]
    show _ + totalS [(⟨p, run, b⟩ : FileV)] + _ = _
    rw [total_cons]
    rfl
  have h3 := hs.total
  have h4 : s.total - oldLen s.written p + b.length = totalS (putFileS s.written ⟨p, run, b⟩) := by omega
  refine ⟨byPath_put hs.sorted _, fun x hx => ?_, h4, ?_, hs.told⟩
  · rcases List.mem_append.1 hx with h | h
    · rcases List.mem_append.1 h with h | h
      · exact hs.own x (List.mem_filter.1 h).1
      · obtain rfl : x = ⟨p, run, b⟩ := by simpa using h
        exact ⟨⟨o, hom, hoe⟩, by show b.length ≤ 100000; omega, hp o hom hoe⟩
    · exact hs.own x (List.mem_filter.1 h).1
  · show s.total - oldLen s.written p + b.length ≤ 2000000
    have : oldLen s.written p ≤ s.total := by omega
    omega
end Go.Proofs.Sm

namespace Go.Proofs.Sm
open Go.RowKit

theorem word_text {s : ByteArray} (h : isWordS s = true) : s.data.toList.all textB = true := by
  unfold isWordS at h
  rw [Bool.and_eq_true, List.all_eq_true] at h
  rw [List.all_eq_true]
  intro c hc
  have h1 := h.1 c hc
  unfold bytesInB at h1
  rw [Bool.and_eq_true, decide_eq_true_eq, decide_eq_true_eq] at h1
  unfold textB textI
  rw [Bool.or_eq_true, Bool.and_eq_true, decide_eq_true_eq, decide_eq_true_eq]
  exact .inr ⟨by omega, by omega⟩
theorem join_text {ws : List ByteArray} (h : ∀ w ∈ ws, isWordS w = true) : (joinS ws).all textB = true := by
  unfold joinS
  cases ws with
  | nil => rfl
  | cons w r =>
    rw [List.map_cons, Lib.join_cons, List.all_append, Bool.and_eq_true]
    refine ⟨word_text (h w (by simp)), ?_⟩
    unfold Lib.joinTail
    rw [List.all_eq_true]
    intro c hc
    obtain ⟨l, hl, hcl⟩ := List.mem_flatten.1 hc
    obtain ⟨x, hx, rfl⟩ := List.mem_map.1 hl
    obtain ⟨y, hy, rfl⟩ := List.mem_map.1 hx
    rcases List.mem_append.1 hcl with h1 | h1
    · obtain rfl : c = 32 := by simpa using h1
      decide
    · exact List.all_eq_true.1 (word_text (h y (by simp [hy]))) c h1
theorem keepsW_tell (a : ActionV) {ws : List ByteArray} (h : ∀ w ∈ ws, isWordS w = true) : KeepsW a (tellE ws) := fun F s hs => by
  unfold tellE
  split
  · exact hs
  rename_i hl
  refine ⟨hs.sorted, hs.own, hs.total, hs.small, ?_, ?_, by show (s.told ++ lineW ws).length ≤ 100000; omega⟩
  · show (s.told ++ lineW ws).all textB = true
    unfold lineW
    rw [List.all_append, List.all_append, hs.told.1, join_text h]
    decide
  · show endsS (s.told ++ lineW ws) = true
    unfold endsS lineW
    rw [← List.append_assoc]
    simp
theorem cmd_isWords {c : List ByteArray} (h : checkCommandS c = 0) : ∀ w ∈ c, isWordS w = true := by
  unfold checkCommandS at h
  split at h
  · cases h
  split at h
  · cases h
  split at h
  · cases h
  · rename_i hw
    intro w hwm
    exact List.all_eq_true.1 (by simpa using hw) w hwm
theorem keepsW_do (a : ActionV) (ho : ∀ o ∈ a.outputs, IsP o) {c : List ByteArray} (h : checkCommandS c = 0) : KeepsW a (doE a c) := by
  have hr : ∀ {α : Type} (x : α), KeepsW a (Ex.ret x) := fun x => (quiet_ret x).keepsW a
  unfold doE
  dsimp only
  split
  · exact keepsW_tell a fun w hw => cmd_isWords h w (List.mem_of_mem_drop hw)
  split
  · exact ((quiet_read _).keepsW a).bind fun x => hr _
  split
  · unfold sameE
    refine ((quiet_read _).keepsW a).bind fun x => ?_
    split
    · refine ((quiet_read _).keepsW a).bind fun y => ?_
      split
      · split <;> exact hr _
      · exact hr _
    · exact hr _
  split
  · exact hr _
  · refine ((quiet_made _ _).keepsW a).bind fun x => ?_
    split
    · exact keepsW_write a (fun o hom hoe => by
        have e : o = wordAt c 1 := bytes_eq (by rw [← Lib.toList_data, ← Lib.toList_data]; exact hoe)
        rw [← e]; exact ho o hom) _ _
    · exact hr _
theorem keepsW_run (a : ActionV) (ho : ∀ o ∈ a.outputs, IsP o) : ∀ (l : List (List ByteArray)) (i : Nat), (∀ c ∈ l, checkCommandS c = 0) → KeepsW a (runE a l i)
  | [], _, _ => fun _ _ hs => hs
  | c :: rest, i, h => by
    unfold runE
    refine (keepsW_do a ho (h c (by simp))).bind fun x => ?_
    split
    · exact keepsW_run a ho rest (i + 1) fun c' hc' => h c' (by simp [hc'])
    · exact (quiet_ret _).keepsW a

/-! ### Codes -/
def Gives {α : Type} (Q : α → Prop) (m : Ex α) : Prop := ∀ F s, Q (m F s).1
section
variable {α β : Type}
theorem gives_ret {Q : α → Prop} {a : α} (h : Q a) : Gives Q (Ex.ret a) := fun _ _ => h
theorem Gives.bind {Q : α → Prop} {R : β → Prop} {m : Ex α} {f : α → Ex β} (h : Gives Q m) (hf : ∀ a, Q a → Gives R (f a)) : Gives R (m.bind f) := fun F s => hf _ (h F s) F _
theorem gives_any (m : Ex α) : Gives (fun _ => True) m := fun _ _ => trivial
end
def Low (c : Int) : Prop := 0 ≤ c ∧ c ≤ 5
theorem gives_read (p : ByteArray) : Gives (fun x => Low x.2) (readE p) := (gives_any _).bind fun x _ => by cases x <;> exact gives_ret ⟨by simp, by simp⟩
theorem gives_each {f : ByteArray → List UInt8 → Nat → Ex (List UInt8 × Nat × Int)} (hf : ∀ p o r, Gives (fun x => Low x.2.2) (f p o r)) : ∀ l o r, Gives (fun x => Low x.2.2) (eachE f l o r)
  | [], _, _ => gives_ret ⟨by simp, by simp⟩
  | s :: rest, o, r => by
    unfold eachE
    split
    · refine (hf _ o r).bind fun x hx => ?_
      split
      · exact gives_each hf rest _ _
      · exact gives_ret hx
    · split
      · exact gives_ret ⟨by simp, by simp⟩
      · exact gives_each hf rest _ _
theorem gives_file : ∀ fuel inn p o r, Gives (fun x => Low x.2.2) (fileE fuel inn p o r)
  | 0, _, _, _, _ => gives_ret ⟨by simp, by simp⟩
  | fuel + 1, inn, p, o, r => by
    unfold fileE
    split
    · exact gives_ret ⟨by simp, by simp⟩
    · refine (gives_read p).bind fun x hx => ?_
      split
      · split
        · exact gives_ret ⟨by simp, by simp⟩
        · exact gives_each (fun p o r => gives_file fuel _ p o r) _ _ _
      · exact gives_ret hx
theorem gives_joined : ∀ l o, Gives (fun x => Low x.2) (joinedE l o)
  | [], _ => gives_ret ⟨by simp, by simp⟩
  | p :: rest, o => by
    unfold joinedE
    refine (gives_read p).bind fun x hx => ?_
    split
    · exact gives_joined rest _
    · exact gives_ret hx
theorem gives_pick : ∀ l, Gives (fun x => Low x.2) (pickE l)
  | [] => gives_ret ⟨by simp, by simp⟩
  | p :: rest => by
    unfold pickE
    refine (gives_any _).bind fun x _ => ?_
    cases x
    · exact gives_pick rest
    · exact gives_ret ⟨by simp, by simp⟩
theorem gives_made (vars : List VarV) (c : List ByteArray) : Gives (fun x => Low x.2) (madeE vars c) := by
  unfold madeE
  dsimp only
  split
  · exact gives_joined _ _
  split
  · exact (gives_file _ _ _ _ _).bind fun x hx => gives_ret hx
  split
  · exact gives_pick _
  split
  · exact (gives_any _).bind fun x _ => gives_ret ⟨by simp, by simp⟩
  split
  · refine gives_ret ?_
    unfold valueS
    split <;> exact ⟨by simp, by simp⟩
  · refine (gives_read _).bind fun x hx => ?_
    split
    · exact gives_ret ⟨by simp, by simp⟩
    · exact gives_ret hx
theorem num_small {s : ByteArray} (h : isNumberS s 6 = true) : numS s ≤ 999999 := by
  obtain ⟨_, h1, h2, _⟩ := number_some h
  have h5 : 10 ^ s.size ≤ 10 ^ 6 := Nat.pow_le_pow_right (by decide) h2
  omega
def CodeOk (c : Int) : Prop := 0 ≤ c ∧ c ≤ 999999
theorem Low.ok {c : Int} (h : Low c) : CodeOk c := ⟨h.1, by have := h.2; omega⟩
theorem gives_do (a : ActionV) {c : List ByteArray} (h : checkCommandS c = 0) : Gives CodeOk (doE a c) := by
  unfold doE
  dsimp only
  split
  · exact fun F s => by unfold tellE; split <;> exact ⟨by simp, by simp⟩
  split
  · exact (gives_read _).bind fun x hx => gives_ret hx.ok
  split
  · unfold sameE
    refine (gives_read _).bind fun x hx => ?_
    split
    · refine (gives_read _).bind fun y hy => ?_
      split
      · split <;> exact gives_ret ⟨by simp, by simp⟩
      · exact gives_ret hy.ok
    · exact gives_ret hx.ok
  split
  · rename_i e
    refine gives_ret ?_
    obtain ⟨hl, kinds, more, hf, h1, _, h3⟩ := command_form h
    rw [e] at hf
    cases hf
    have h4 := h3 0 _ (wordAt_mem (by simp at h1; omega))
    have h5 : isNumberS (wordAt c 1) 6 = true := h4
    have := num_small h5
    exact ⟨by omega, by omega⟩
  · refine (gives_made a.vars c).bind fun x hx => ?_
    split
    · exact fun F s => by unfold writeE; split <;> (try split) <;> exact ⟨by simp, by simp⟩
    · exact gives_ret hx.ok
theorem gives_run (a : ActionV) : ∀ (l : List (List ByteArray)) (i : Nat), (∀ c ∈ l, checkCommandS c = 0) → Gives (fun x => CodeOk x.1 ∧ x.2 ≤ i + l.length ∧ (x.1 = 0 → x.2 = 0) ∧ (1 < x.1 → 0 < x.2)) (runE a l i)
  | [], i, _ => fun F s => by
    unfold runE
    split
    · exact ⟨⟨by simp, by simp⟩, Nat.zero_le _, fun _ => rfl, fun h => absurd h (by simp)⟩
    · exact ⟨⟨by simp, by simp⟩, Nat.zero_le _, fun _ => rfl, fun h => absurd h (by simp)⟩
  | c :: rest, i, h => by
    unfold runE
    refine (gives_do a (h c (by simp))).bind fun x hx => ?_
    split
    · intro F s
      obtain ⟨h1, h2, h3, h4⟩ := gives_run a rest (i + 1) (fun c' hc' => h c' (by simp [hc'])) F s
      exact ⟨h1, by rw [List.length_cons]; omega, h3, h4⟩
    · rename_i h0
      exact gives_ret ⟨hx, by rw [List.length_cons]; omega, fun e => absurd e h0, fun _ => Nat.succ_pos _⟩
theorem run_all (a : ActionV) (F : List FileV) : ∀ (l : List (List ByteArray)) (i : Nat) (s : ExSt), (runE a l i F s).1.1 = 0 → a.outputs.length ≤ (runE a l i F s).2.written.length
  | [], i, s, h => by
    unfold runE at h ⊢
    split at h
    · exact absurd h (by simp)
    · rename_i h1
      show a.outputs.length ≤ s.written.length
      omega
  | c :: rest, i, s, h => by
    unfold runE Ex.bind at h ⊢
    dsimp only at h ⊢
    by_cases h0 : (doE a c F s).1 = 0
    · rw [if_pos h0] at h ⊢
      exact run_all a F rest (i + 1) _ h
    · rw [if_neg h0] at h
      exact absurd h h0
end Go.Proofs.Sm

namespace Go.Proofs.Sm
open Go.RowKit

theorem outs_parts {l : List ByteArray} (h : checkOutputsS l = 0) : l.length ≤ 100 ∧ (∀ o ∈ l, IsP o) ∧ l.Pairwise (fun x y => ltS x y = true) ∧ ∀ p ∈ l, ∀ q ∈ l, liesS p q = false := by
  unfold checkOutputsS at h
  split at h
  · cases h
  split at h
  · cases h
  rename_i h1
  split at h
  · rename_i h2; exact absurd h h2
  rename_i h2
  have h2 : listErr outErr id none l = 0 := by simpa using h2
  split at h
  · cases h
  rename_i h3
  refine ⟨by omega, fun o ho => ?_, ?_, fun p hp q hq => ?_⟩
  · obtain ⟨k, hk⟩ := List.getElem?_of_mem ho
    have h4 := listErr_at h2 k o hk
    unfold outErr at h4
    split at h4
    · cases h4
    · rename_i h5
      show isPathS o = true
      simpa using h5
  · rw [List.pairwise_iff_getElem]
    intro i j hi hj hij
    exact outs_before h2 i j _ _ hij (List.getElem?_eq_getElem hi) (List.getElem?_eq_getElem hj)
  · have h4 : (l.any fun p => l.any fun q => liesS p q) = false := by simpa using h3
    have h5 := List.any_eq_false.1 h4 p hp
    have h6 : (l.any fun q => liesS p q) = false := by simpa using h5
    have h7 := List.any_eq_false.1 h6 q hq
    simpa using h7
theorem sorted_same {A B : List ByteArray} (hA : A.Pairwise fun x y => ltS x y = true) (hB : B.Pairwise fun x y => ltS x y = true) (hs : ∀ x ∈ A, x ∈ B) (hn : B.length ≤ A.length) : A = B := by
  have hne : ∀ {l : List ByteArray}, (l.Pairwise fun x y => ltS x y = true) → l.Pairwise fun x y => ¬ x.toList = y.toList := fun h => h.imp fun {x y} hxy e => by
    rw [ltS_eq_l e, ltS_irrefl] at hxy; cases hxy
  have hnd : ∀ {l : List ByteArray}, (l.Pairwise fun x y => ltS x y = true) → l.Nodup := fun h => h.imp fun {x y} hxy e => by
    rw [e, ltS_irrefl] at hxy; cases hxy
  have hback : ∀ x ∈ B, x ∈ A := fun b hb => Classical.byContradiction fun hno => by
    obtain ⟨B1, B2, rfl⟩ := List.append_of_mem hb
    have h1 := many_paths A (B1 ++ B2) (hne hA) fun x hx => by
      refine ⟨x, ?_, rfl⟩
      rcases List.mem_append.1 (hs x hx) with h | h
      · exact List.mem_append.2 (.inl h)
      · rcases List.mem_cons.1 h with h | h
        · exact absurd (h ▸ hx) hno
        · exact List.mem_append.2 (.inr h)
    simp only [List.length_append, List.length_cons] at h1 hn
    omega
  refine List.Perm.eq_of_pairwise (le := fun x y => ltS x y = true) (fun x y _ _ h1 h2 => ?_) hA hB ((List.perm_ext_iff_of_nodup (hnd hA) (hnd hB)).2 fun x => ⟨hs x, hback x⟩)
  have := ltS_trans h1 h2
  rw [ltS_irrefl] at this; cases this
theorem clash_lies {l : List FileV} {p : ByteArray} : ∀ {n i : Nat}, clashFrom l p n i = true → ∃ y ∈ l, liesS p y.path = true
  | 0, _, h => by cases h
  | n + 1, i, h => by
    rw [clashFrom, Bool.or_eq_true, Bool.and_eq_true, decide_eq_true_eq] at h
    rcases h with ⟨h1, h2⟩ | h
    · unfold hasPath at h2
      obtain ⟨y, hy, he⟩ := List.any_eq_true.1 h2
      have he : y.path.data.toList = p.data.toList.take i := by simpa using he
      refine ⟨y, hy, ?_⟩
      unfold liesS Lib.hasPrefix
      rw [List.isPrefixOf_iff_prefix, he]
      have h3 : p.data.toList.take i ++ [47] = p.data.toList.take (i + 1) := by rw [List.take_add_one, h1]; rfl
      rw [h3]
      exact List.take_prefix _ _
    · exact clash_lies h
theorem filesErr_ok : ∀ {l : List FileV} {prev : Option ByteArray}, ByPath FileV.path l → (∀ x ∈ l, IsP x.path ∧ x.bytes.length ≤ 100000) → (∀ q, prev = some q → ∀ x ∈ l, ltS q x.path = true) → filesErr prev l = 0
  | [], _, _, _, _ => rfl
  | y :: l, prev, hs, he, hp => by
    unfold ByPath at hs
    rw [List.pairwise_cons] at hs
    have h0 : notAfter prev y.path = false := by
      cases prev with
      | none => rfl
      | some q =>
        have h1 : ltS q y.path = true := hp q rfl y (by simp)
        show leS y.path q = false
        cases h2 : leS y.path q
        · rfl
        · unfold leS at h2
          rw [Bool.or_eq_true] at h2
          rcases h2 with h2 | h2
          · have := ltS_trans (x := y.path) (y := q) (z := y.path) h2 h1
            rw [ltS_irrefl] at this; cases this
          · have e : y.path.toList = q.toList := by simpa using h2
            rw [ltS_eq_r (z := q) e, ltS_irrefl] at h1; cases h1
    have h1 : fileErr prev y = 0 := by
      obtain ⟨e1, e2⟩ := he y (by simp)
      have e1 : isPathS y.path = true := e1
      unfold fileErr
      rw [if_neg (by rw [e1]; decide), if_neg (by omega), h0]
      rfl
    rw [filesErr, if_pos h1]
    exact filesErr_ok hs.2 (fun z hz => he z (by simp [hz])) fun q hq z hz => by
      cases hq
      exact hs.1 z hz
/-- all that is to be known of a result -/
structure ResultRight (a : ActionV) (F : List FileV) : Prop where
  right : checkResultS (execS a F) = 0
  code : CodeOk (execS a F).code
  command : 0 ≤ (execS a F).command ∧ (execS a F).command ≤ a.commands.length
  none_ : (execS a F).code = 0 → (execS a F).command = 0
  some_ : 1 < (execS a F).code → 0 < (execS a F).command
  bad : (execS a F).code ≠ 0 → (execS a F).files = []
  good : (execS a F).code = 0 → (execS a F).files.map FileV.path = a.outputs
theorem wrote_start (a : ActionV) : WroteOk a startS := ⟨List.Pairwise.nil, (fun x hx => by cases hx), rfl, by decide, rfl, rfl, by decide⟩
theorem result_right {a : ActionV} {F : List FileV} (hc : ∀ c ∈ a.commands, checkCommandS c = 0) (hl : a.commands.length ≤ 50) (ho : checkOutputsS a.outputs = 0) (hF : ∀ x ∈ F, IsP x.path) (hn : F.length ≤ 1000) : ResultRight a F := by
  obtain ⟨o1, o2, o3, o4⟩ := outs_parts ho
  have hg := gives_run a a.commands 0 hc F startS
  have hw := keepsW_run a o2 a.commands 0 hc F startS (wrote_start a)
  have hall := run_all a F a.commands 0 startS
  have hlooks := (looks_right hc hl hF hn).right
  obtain ⟨g1, g2, g3, g4⟩ := hg
  have hgood : (runE a a.commands 0 F startS).1.1 = 0 → (runE a a.commands 0 F startS).2.written.map FileV.path = a.outputs := fun h0 => by
    refine sorted_same ?_ o3 (fun p hp => ?_) (by rw [List.length_map]; exact hall h0)
    · rw [List.pairwise_map]; exact hw.sorted
    · obtain ⟨x, hx, rfl⟩ := List.mem_map.1 hp
      obtain ⟨o, hom, hoe⟩ := (hw.own x hx).1
      have e : o = x.path := bytes_eq (by rw [← Lib.toList_data, ← Lib.toList_data]; exact hoe)
      rw [← e]; exact hom
  have hcode : (execS a F).code = (runE a a.commands 0 F startS).1.1 := rfl
  have hcmd : (execS a F).command = ((runE a a.commands 0 F startS).1.2 : Int) := rfl
  have htext : (execS a F).text = ⟨(runE a a.commands 0 F startS).2.told.toArray⟩ := rfl
  have hfiles : (execS a F).files = if (runE a a.commands 0 F startS).1.1 = 0 then (runE a a.commands 0 F startS).2.written else [] := rfl
  have hcl : (runE a a.commands 0 F startS).1.2 ≤ a.commands.length := by omega
  refine ⟨?_, g1, ⟨by rw [hcmd]; omega, by rw [hcmd]; omega⟩, fun h => by rw [hcmd, g3 (hcode ▸ h)]; rfl, fun h => by rw [hcmd]; have := g4 (hcode ▸ h); omega, fun h => by rw [hfiles, if_neg (hcode ▸ h)], fun h => by rw [hfiles, if_pos (hcode ▸ h)]; exact hgood (hcode ▸ h)⟩
  have hck : checkFilesS (execS a F).files = 0 := by
    rw [hfiles]
    split
    · rename_i h0
      have h1 := hgood h0
      have h2 : (runE a a.commands 0 F startS).2.written.length = a.outputs.length := by rw [← h1, List.length_map]
      have h3 := filesErr_ok (prev := none) hw.sorted (fun x hx => ⟨(hw.own x hx).2.2, (hw.own x hx).2.1⟩) fun q hq => by cases hq
      have h4 : ((runE a a.commands 0 F startS).2.written.any fun x => clashS (runE a a.commands 0 F startS).2.written x.path) = false := by
        rw [List.any_eq_false]
        intro x hx hcl
        obtain ⟨y, hy, hly⟩ := clash_lies hcl
        have := o4 x.path (h1 ▸ List.mem_map.2 ⟨x, hx, rfl⟩) y.path (h1 ▸ List.mem_map.2 ⟨y, hy, rfl⟩)
        rw [this] at hly; cases hly
      have h5 := hw.total
      have h6 := hw.small
      unfold checkFilesS
      rw [if_neg (by omega), if_neg (by rw [h3]; simp), if_neg (by rw [h4]; simp), if_neg (by omega)]
    · rfl
  have htx : isTextS (execS a F).text = true := by
    rw [htext]
    unfold isTextS
    rw [Bool.and_eq_true]
    exact ⟨hw.told.1, hw.told.2.1⟩
  have hts : ¬ (100000 : Int) < ((execS a F).text.size : Int) := by
    rw [htext]
    have := hw.told.2.2
    have h1 : (⟨(runE a a.commands 0 F startS).2.told.toArray⟩ : ByteArray).size = (runE a a.commands 0 F startS).2.told.length := by simp [ByteArray.size]
    omega
  have hwi : (withinB (execS a F).code 0 999999 && withinB (execS a F).command 0 50) = true := by
    rw [hcode, hcmd]
    unfold withinB
    obtain ⟨c1, c2⟩ := g1
    simp only [Bool.and_eq_true, decide_eq_true_eq]
    exact ⟨⟨by omega, by omega⟩, by omega, by omega⟩
  have hbad : ((!(execS a F).files.isEmpty) && (execS a F).code != 0) = false := by
    rw [hfiles, hcode]
    split
    · rename_i h0; rw [h0]; simp
    · rfl
  unfold checkResultS
  rw [if_neg (by rw [hwi]; decide), if_neg hts, if_neg (by rw [htx]; decide), if_neg (by rw [hck]; decide), if_neg (by rw [hbad]; decide)]
  exact hlooks
end Go.Proofs.Sm

namespace Go.Proofs.Sm
open Go.RowKit

/-- how long the first line is, its byte 10 with it -/
def lineLen (b : List UInt8) : Nat := if Lib.indexByte b 10 = -1 then b.length else (Lib.indexByte b 10 + 1).toNat
theorem idx_cons (c : UInt8) (r : List UInt8) : Lib.indexByte (c :: r) 10 = if c = 10 then 0 else if Lib.indexByte r 10 = -1 then -1 else Lib.indexByte r 10 + 1 := by
  rw [Lib.indexByte]
  by_cases h : c = 10
  · simp [h]
  · have h1 : (c == 10) = false := by simpa using h
    rw [if_neg h, h1]
    simp
theorem lineLen_cons (c : UInt8) (r : List UInt8) : lineLen (c :: r) = if c = 10 then 1 else lineLen r + 1 := by
  have hg := Lib.indexByte_ge r 10
  unfold lineLen
  rw [idx_cons]
  by_cases h : c = 10
  · simp [h]
  · simp only [if_neg h]
    by_cases h1 : Lib.indexByte r 10 = -1
    · simp [h1]
    · simp only [if_neg h1]
      rw [if_neg (by omega)]
      omega
theorem lineLen_pos {b : List UInt8} (h : b ≠ []) : 0 < lineLen b := by
  cases b with
  | nil => exact absurd rfl h
  | cons c r => rw [lineLen_cons]; split <;> omega
theorem lineLen_le : ∀ b : List UInt8, lineLen b ≤ b.length
  | [] => by simp [lineLen, Lib.indexByte]
  | c :: r => by
    have := lineLen_le r
    rw [lineLen_cons, List.length_cons]
    split <;> omega
theorem linesS_nil : linesS [] = [] := rfl
theorem lines_cons (c : UInt8) (r : List UInt8) : linesS (c :: r) = if c = 10 then [10] :: linesS r else match linesS r with
    | [] => [[c]]
    | x :: xs => (c :: x) :: xs := by
  rw [linesS]
  split
  · rfl
  · cases h : linesS r with
    | nil => rfl
    | cons x xs =>
      simp only
      split
      · rename_i h1; rw [h1]
      · rfl
theorem lines_step : ∀ {b : List UInt8}, b ≠ [] → linesS b = b.take (lineLen b) :: linesS (b.drop (lineLen b))
  | [], h => absurd rfl h
  | c :: r, _ => by
    rw [lines_cons, lineLen_cons]
    by_cases h : c = 10
    · subst h; simp
    · simp only [if_neg h]
      cases r with
      | nil => simp [linesS, lineLen, Lib.indexByte]
      | cons d q =>
        rw [lines_step (b := d :: q) (by simp)]
        simp
theorem lines_flat : ∀ b : List UInt8, (linesS b).flatten = b
  | [] => rfl
  | c :: r => by
    rw [lines_cons]
    have ih := lines_flat r
    split
    · rename_i h; rw [List.flatten_cons, ih, h]; rfl
    · cases h : linesS r with
      | nil => rw [h] at ih; simp at ih; simp [← ih]
      | cons x xs => rw [h, List.flatten_cons] at ih; simp [← ih]
theorem lines_count : ∀ b : List UInt8, (linesS b).length ≤ b.length
  | [] => Nat.le_refl _
  | c :: r => by
    rw [lines_cons]
    have ih := lines_count r
    split
    · simpa using ih
    · cases h : linesS r with
      | nil => simp
      | cons x xs => rw [h] at ih; simpa using Nat.le_succ_of_le ih
theorem line_short {b x : List UInt8} (h : x ∈ linesS b) : x.length ≤ b.length := by
  rw [← lines_flat b]
  generalize linesS b = L at h ⊢
  induction L with
  | nil => cases h
  | cons y L ih =>
    rw [List.flatten_cons, List.length_append]
    rcases List.mem_cons.1 h with rfl | h
    · omega
    · have := ih h; omega
theorem cutNl_len (s : List UInt8) : (cutNl s).length ≤ s.length := by
  unfold cutNl Lib.trimSuffix
  split
  · simp
  · exact Nat.le_refl _
end Go.Proofs.Sm

namespace Go.Proofs.Sm
open Go.RowKit

structure ExOk (a : ActionV) (F : List FileV) (M : Nat) (s : ExSt) : Prop where
  looks : LooksFrom F (fun _ => True) s
  miss : missS F s.looks ≤ M
  wrote : WroteOk a s
section
variable {a : ActionV} {F : List FileV} {M : Nat} {s : ExSt} {α : Type}
theorem ExOk.step {m : Ex α} {M' c : Nat} {f : α → Nat} (h : ExOk a F M s) (ha : Asks (fun _ => True) F m) (hm : MissUp F c f m) (hk : KeepsW a m) (hM : M + f (m F s).1 ≤ M' + c) : ExOk a F M' (m F s).2 :=
  ⟨ha s h.looks, by have := hm s; have := h.miss; omega, hk F s h.wrote⟩
theorem ExOk.more {M' : Nat} (h : ExOk a F M s) (hM : M ≤ M') : ExOk a F M' s := ⟨h.looks, Nat.le_trans h.miss hM, h.wrote⟩
theorem ExOk.many (h : ExOk a F M s) : s.looks.length ≤ F.length + M := by
  have := looks_count h.looks
  have := h.miss
  omega
theorem ExOk.start (a : ActionV) (F : List FileV) : ExOk a F 0 startS := ⟨⟨List.Pairwise.nil, fun y hy => by cases hy⟩, Nat.le_refl _, wrote_start a⟩
theorem ExOk.find (h : ExOk a F M s) (p : ByteArray) : ExOk a F (M + noneN (findE p F s).1) (findE p F s).2 :=
  h.step (asks_find trivial) (miss_find p 0) ((quiet_find p).keepsW a) (by omega)
theorem ExOk.read (h : ExOk a F M s) (p : ByteArray) : ExOk a F (M + codeN (readE p F s).1.2) (readE p F s).2 :=
  h.step (asks_read trivial) (miss_read p 0) ((quiet_read p).keepsW a) (by omega)
theorem ExOk.file (h : ExOk a F M s) (fuel : Nat) (inn : List ByteArray) (p : ByteArray) (o : List UInt8) (r : Nat) : ExOk a F (M + codeN (fileE fuel inn p o r F s).1.2.2) (fileE fuel inn p o r F s).2 :=
  h.step (asks_file (fun _ _ => trivial) fuel inn p o r trivial) (miss_file fuel inn p o r 0) ((quiet_file fuel inn p o r).keepsW a) (by omega)
theorem ExOk.joined (h : ExOk a F M s) (l : List ByteArray) (o : List UInt8) : ExOk a F (M + codeN (joinedE l o F s).1.2) (joinedE l o F s).2 :=
  h.step (asks_joined l o fun _ _ => trivial) (miss_joined l o 0) ((quiet_joined l o).keepsW a) (by omega)
theorem ExOk.pick (h : ExOk a F M s) (l : List ByteArray) : ExOk a F (M + l.length) (pickE l F s).2 :=
  h.step (asks_pick l fun _ _ => trivial) (miss_pick l 0) ((quiet_pick l).keepsW a) (by omega)
/-- what is found among what was written is there -/
theorem find_short {p : ByteArray} {x : FileV} (h : ExOk a F M s) (hF : ∀ y ∈ F, y.bytes.length ≤ 100000) (hx : (findE p F s).1 = some x) : x.bytes.length ≤ 100000 := by
  unfold findE at hx
  split at hx
  · rename_i y hy
    cases hx
    exact (h.wrote.own _ (List.mem_of_find?_eq_some hy)).2.1
  · exact hF _ (List.mem_of_find?_eq_some hx)
theorem read_short {p : ByteArray} (h : ExOk a F M s) (hF : ∀ y ∈ F, y.bytes.length ≤ 100000) : (readE p F s).1.1.length ≤ 100000 := by
  unfold readE Ex.bind
  cases hx : (findE p F s).1 with
  | none => simp [Ex.ret]
  | some x => exact find_short h hF hx
end
end Go.Proofs.Sm

namespace Go.Proofs.Sm
open Go.RowKit

theorem partI_index (c : Int) (h0 : 0 ≤ c) (h1 : c ≤ 255) : (0 ≤ Lib.indexByte (⟨#[46, 95, 45, 43]⟩ : ByteArray).data.toList c.toNat.toUInt8) = (c = 46 ∨ c = 95 ∨ c = 45 ∨ c = 43) := by
  obtain ⟨n, rfl⟩ := Int.eq_ofNat_of_zero_le h0
  have hn : n < 256 := by omega
  clear h0 h1
  revert n
  decide +kernel

theorem blob_inPart (c : Int) (h0 : 0 ≤ c) (h1 : c ≤ 255) (w : World) : Calls Tryz.prog 157 #[.int .u8 c] w fun e w' => e = .returned (.bool (partI c)) ∧ w = w' := by
  have hx := Lib.hid (partI_index c h0 h1)
  go_enter Tryz.func157, Tryz.ntmps157
  go_wp2_with (go_at_call 215; refine (Tryz.strings_IndexByte _ _ _).mono ?_; rintro e w1 ⟨rfl, rfl⟩)
  all_goals (go_ret; refine ⟨ret_bool ?_, rfl⟩; rw [Bool.eq_iff_iff]; try (simp only [decide_eq_true_eq, hx.out]); simp [partI] <;> omega)
end Go.Proofs.Sm

namespace Go.Proofs.Sm
open Go.RowKit

theorem blob_isPart (s : ByteArray) (w : World) (hs : s.size ≤ maxLen) : Calls Tryz.prog 118 #[.string s] w fun e w' => e = .returned (.bool (isPartS s)) ∧ w = w' := by
  unfold maxLen at hs
  go_enter Tryz.func118, Tryz.ntmps118
  go_wp2
  go_loop [3, 6] (fun _ i => ∃ k : Nat, k ≤ s.size ∧ i = .int .i64 k ∧ (s.data.toList.take k).all partB = true) (fun _ i => s.size - (intOf i).toNat)
  case atStart => exact ⟨0, Nat.zero_le _, rfl, rfl⟩
  case round =>
    obtain ⟨k, hk, rfl, hall⟩ := hrel
    have H := Lib.hid hall; clear hall
    by_cases hlt : k < s.size
    · have h255 : (s[k].toNat : Int) ≤ 255 := by have := s[k].toNat_lt; omega
      go_wp2_with (go_at_call 157; refine (blob_inPart _ (Int.natCast_nonneg _) h255 _).mono ?_; rintro e w1 ⟨rfl, rfl⟩)
      all_goals first
        | (go_round
           case rel => exact ⟨k + 1, by omega, by go_num, all_step hlt H.out (by simp_all [partB])⟩
           case measure => simp [intOf]; omega)
        | (go_ret; exact ⟨ret_bool (by simp [isPartS, all_no (p := partB) hlt (by simp_all [partB])]), rfl⟩)
    · have He := all_end hlt H.out
      go_wp2
      all_goals (go_ret; exact ⟨ret_bool (by simp_all [isPartS, Lib.toList_data]), rfl⟩)

end Go.Proofs.Sm

namespace Go.Proofs.Sm
open Go.RowKit

theorem parts_le {s x : ByteArray} (h : x ∈ partsS s) : x.size ≤ s.size := splitB_size h
theorem parts_many (s : ByteArray) : (partsS s).length ≤ s.size + 1 := by
  have := Lib.countB_le ⟨#[47]⟩ (by decide) _ s (Nat.le_refl _)
  rw [partsS_length]; omega
theorem split_parts (s : ByteArray) (w : World) (hE : Env w) (hs : s.size < 4294967281) :
    Calls Tryz.prog 117 #[.string s, .string ⟨#[47]⟩] w fun e w' =>
      ∃ A n, e = .returned (.slice A n n) ∧ Sl w' (Lt w'.heap.size) A n (partsS s) ∧ Below w.heap.size w w' := by
  refine (split_any s ⟨#[47]⟩ w hE hs (by decide)).mono ?_
  rintro e w' ⟨rfl, rfl⟩
  refine ⟨_, _, rfl, ?_, (Below.refl _ _).alloc (Nat.le_refl _) _⟩
  have hl := parts_many s
  have h := Sl.new_strs (w := w) (t := 9) (l := partsS s) (by unfold maxLen; omega) (fun x hx => by have := parts_le hx; unfold maxLen; omega)
  rw [partsS_length] at h
  have e : partsS s = Lib.splitB ⟨#[47]⟩ 0 (Lib.countB s ⟨#[47]⟩) s := rfl
  rw [← e]
  simpa using h

theorem blob_IsPath (s : ByteArray) (w : World) (hE : Env w) : Calls Tryz.prog 75 #[.string s] w fun e w' => e = .returned (.bool (isPathS s)) ∧ Below w.heap.size w w' := by
  have Hd := Lib.hid (isPathS_eq s)
  by_cases h1 : (s.size : Int) < 1
  · go_enter Tryz.func75, Tryz.ntmps75
    go_wp2
    go_ret; exact ⟨ret_bool (by rw [Hd.out]; simp [withinB]; omega), Below.refl _ _⟩
  by_cases h2 : (200 : Int) < s.size
  · go_enter Tryz.func75, Tryz.ntmps75
    go_wp2
    go_ret; exact ⟨ret_bool (by rw [Hd.out]; simp [withinB]; omega), Below.refl _ _⟩
  have hw : withinB s.size 1 200 = true := by simp [withinB]; omega
  have hl := parts_many s
  have Hsp := Lib.hid (split_parts s w hE (by omega))
  have Hw := Lib.hid hw; clear hw
  generalize isPathS s = res at *
  generalize partsS s = ps at *
  go_enter Tryz.func75, Tryz.ntmps75
  go_wp2_with (go_at_call 117; refine Hsp.out.mono ?_; rintro e w1 ⟨A, n, rfl, hsl, hbel⟩)
  have hn' : n ≤ 201 := by have := hsl.1; omega
  go_loop [4, 16] (fun _ i => ∃ k : Nat, k ≤ n ∧ i = .int .i64 k ∧ (ps.take k).all isPartS = true) (fun _ i => n - (intOf i).toNat)
  case atStart => exact ⟨0, Nat.zero_le _, rfl, rfl⟩
  case round =>
    obtain ⟨k, hk, rfl, hall⟩ := hrel
    have H := Lib.hid hall; clear hall
    by_cases hlt : k < n
    · obtain ⟨b, o, x, rfl, hb, hx, hxs, c0⟩ := hsl.str hlt
      have Hx := Lib.hid hx; clear hx
      go_wp2_with (go_at_call 118; refine (blob_isPart _ _ hxs).mono ?_; rintro e w1 ⟨rfl, rfl⟩)
      all_goals first
        | (go_round
           case rel => exact ⟨k + 1, by omega, by go_num, lall_step Hx.out H.out (of_not' (by assumption))⟩
           case measure => simp [intOf]; omega)
        | (go_ret; exact ⟨ret_bool (by rw [Hd.out, Hw.out, lall_no (p := isPartS) Hx.out (of_not (by assumption))]; rfl), hbel⟩)
    · have He := Lib.hid (lall_end (by rw [hsl.1]; omega) H.out)
      go_wp2
      go_ret; exact ⟨ret_bool (by rw [Hd.out, He.out, Hw.out]; rfl), hbel⟩

theorem ascii_of_all {l : List UInt8} (h : l.all (fun b => b.toNat < 128) = true) : ∀ (j : Nat) b, l[j]? = some b → b.toNat < 128 := by
  intro j b hb
  have := (List.all_eq_true.1 h) b (List.mem_of_getElem? hb)
  simpa using this

/-- strings.Trim at the sixteen digits. -/
theorem trim_hex_any (s : ByteArray) (w : World) (hs : s.size ≤ maxLen) : Calls Tryz.prog 134 #[.string s, .string ⟨#[48, 49, 50, 51, 52, 53, 54, 55, 56, 57, 97, 98, 99, 100, 101, 102]⟩] w fun e w' =>
    ∃ r : ByteArray, e = .returned (.string r) ∧ r.toList.isEmpty = s.data.toList.all hexB ∧ Below w.heap.size w w' := by
  refine (Any.strings_Trim_laid Tryz.lays160 (by kernel_rfl) s ⟨#[48, 49, 50, 51, 52, 53, 54, 55, 56, 57, 97, 98, 99, 100, 101, 102]⟩ w hs (by decide) (ascii_of_all (by decide))).mono ?_
  rintro e w' ⟨rfl, hb⟩
  refine ⟨_, rfl, ?_, hb⟩
  rw [Lib.toList_data, Bool.eq_iff_iff, List.isEmpty_iff]
  exact trim_hex _

theorem blob_IsDigest (s : ByteArray) (w : World) (hs : s.size ≤ maxLen) : Calls Tryz.prog 89 #[.string s] w fun e w' => e = .returned (.bool (isDigestS s)) ∧ Below w.heap.size w w' := by
  cases h16 : ((s.size : Int) == 16)
  · go_enter Tryz.func89, Tryz.ntmps89
    go_wp2
    go_ret; exact ⟨ret_bool (by rw [isDigestS, h16]; simp), Below.refl _ _⟩
  · have Hd : Hid (isDigestS s = s.data.toList.all hexB) := by show _ = _; rw [isDigestS, h16]; simp
    go_enter Tryz.func89, Tryz.ntmps89
    go_wp2_with (go_at_call 134; refine (trim_hex_any s w hs).mono ?_; rintro e w1 ⟨r, rfl, hr, hb⟩; have Hr := Lib.hid hr; clear hr)
    go_ret; exact ⟨ret_bool (by rw [Hd.out, ← Hr.out]), hb⟩
end Go.Proofs.Sm

namespace Go.Proofs.Sm
open Go.RowKit

set_option maxRecDepth 100000 in
theorem blob_Digest (A : Option Addr) (n c : Nat) (l : List UInt8) (w : World) (hsl : Sl w (Lt w.heap.size) A n l) : Calls Tryz.prog 94 #[.slice A n c] w fun e w' => e = .returned (.string (digestS l)) ∧ Below w.heap.size w w' := by
  have hm : n ≤ 9223372036854775807 := hsl.2.1
  have hmk : ∀ w, (Instr.makeSlice 48 (.int .i64 16) (.int .i64 16)).run Tryz.prog w = .ok (.slice (some ⟨w.heap.size, 0, none⟩) 16 16) (w.alloc (.cells (Array.replicate 16 (.int .u8 0)) 5)) := fun _ => by kernel_rfl
  go_enter Tryz.func94, Tryz.ntmps94
  go_wp2
  go_loop [3, 5, 10] (fun h _ i => ∃ k : Nat, k ≤ n ∧ i = .int .i64 k ∧ h = .int .u64 (fnv (l.take k) : Nat)) (fun _ _ i => n - (intOf i).toNat)
  case atStart => exact ⟨0, Nat.zero_le _, rfl, by rw [fnv_zero]; rfl⟩
  case round =>
    obtain ⟨k, hk, rfl, rfl⟩ := hrel
    by_cases hlt : k < n
    · obtain ⟨b, o, x, rfl, hb, hx, c0⟩ := hsl.byte hlt
      have Hs := Lib.hid (fnv_succ hx); clear hx
      have Hw := Lib.hid (fnv_walk _ (fnv_lt (l.take k)) x)
      have h0 : (0 : Int) ≤ (fnv (l.take k) : Nat) := Int.natCast_nonneg _
      go_wp2
      go_round
      case rel => exact ⟨k + 1, by omega, by go_num, by rw [Hw.out, Hs.out]⟩
      case measure => simp [intOf]; omega
    · have Hl := Lib.hid (show l.take k = l from List.take_of_length_le (by rw [hsl.1]; omega))
      have HU := Lib.hid (fnv_lt (l.take k))
      generalize hH : fnv (l.take k) = H at *
      have HH := Lib.hid hH; clear hH
      go_wp2
      go_loopw [3, 7, 23] (fun h _ i wr => ∃ j : Nat, j ≤ 16 ∧ i = .int .i64 j ∧ h = .int .u64 (H / 16 ^ j : Nat) ∧ ∃ (cs : Array Value), cs.size = 16 ∧ (∀ i, i < 16 → 16 ≤ i + j → cs[i]? = some (.int .u8 (hexChar (H / 16 ^ (15 - i) % 16)).toNat)) ∧ wr.heap[w.heap.size]? = some (.cells cs 5 (0, 0)) ∧ wr.heap.size = w.heap.size + 1 ∧ Below w.heap.size w wr) (fun _ _ i _ => 16 - (intOf i).toNat)
      case atStart =>
        refine ⟨0, by omega, rfl, by simp, Array.replicate 16 (.int .u8 0), by simp, fun i h1 h2 => absurd h2 (by omega), ?_, by simp, (Below.refl _ _).alloc (Nat.le_refl _) _⟩
        exact heap_alloc_new w _
      case round =>
        obtain ⟨j, hj, rfl, rfl, cs, hcs, hdone, hbk, hsz, hbel⟩ := hrel
        have Hdone := Lib.hid hdone; clear hdone
        have Hcs := Lib.hid hcs; clear hcs
        by_cases hj' : j < 16
        · have hc : wr.cell? ⟨w.heap.size, 15 - j, none⟩ = some (cs[15 - j]'(by rw [Hcs.out]; omega)) := by
            rw [World.cell?]; simp [hbk]
          have hf : wr.frozen? ⟨w.heap.size, 15 - j, none⟩ = false := by simp [World.frozen?, hbk]
          have Hbk := Lib.hid hbk; clear hbk
          have Hsz := Lib.hid hsz; clear hsz
          have hnb := nibble H j HU.out
          have hlt16 : H / 16 ^ j % 16 < 16 := Nat.mod_lt _ (by decide)
          generalize hd : H / 16 ^ j % 16 = d at *
          have Hd := Lib.hid hd; clear hd
          have Hsh := Lib.hid (shift4 H j)
          generalize hy : H / 16 ^ j = y at *
          have Hy := Lib.hid hy; clear hy
          go_wp2
          go_round
          case rel =>
            have hy0 := Hy.out
            have hsz' : (wr.setCell ⟨w.heap.size, 15 - j, none⟩ (.int .u8 (hexChar d).toNat)).heap.size = w.heap.size + 1 := by simp [World.setCell, Hsz.out]
            refine ⟨j + 1, by omega, by go_num, by rw [← Hsh.out], cs.setIfInBounds (15 - j) (.int .u8 (hexChar d).toNat), by simp [Hcs.out], fun i h1 h2 => ?_, ?_, ?_, ?_⟩
            · by_cases he : i = 15 - j
              · subst he
                have e : 15 - (15 - j) = j := by omega
                rw [Array.getElem?_setIfInBounds_self_of_lt (by rw [Hcs.out]; omega), e, hy0, Hd.out]
              · rw [Array.getElem?_setIfInBounds_ne (by omega)]
                exact Hdone.out i h1 (by omega)
            · rw [hexGet d hlt16]
              simp [World.setCell, Array.getElem?_modify, Hbk.out]
            · rw [hexGet d hlt16]
              exact hsz'
            · exact hbel.setCell (Nat.le_refl _) _
          case measure => simp [intOf]; omega
        · obtain rfl : j = 16 := by omega
          have hsl' : Sl wr (Lt wr.heap.size) (some ⟨w.heap.size, 0, none⟩) 16 ((List.range 16).map fun i => hexChar (H / 16 ^ (15 - i) % 16)) := by
            refine ⟨by simp, by unfold maxLen; decide, fun _ => ⟨_, _, rfl, by rw [hsz]; exact Nat.lt_succ_self _, fun i x hx => ⟨_, rfl, fun q v hv => ?_⟩⟩⟩
            obtain ⟨rfl, rfl⟩ : q = 0 ∧ v = .int .u8 x.toNat := by
              cases q with
              | zero => simp at hv; exact ⟨rfl, hv.symm⟩
              | succ q => simp at hv
            have hi : i < 16 := by
              have := (List.getElem?_eq_some_iff.1 hx).1
              simpa using this
            rw [List.getElem?_map, List.getElem?_range hi] at hx
            obtain rfl : hexChar (H / 16 ^ (15 - i) % 16) = x := by simpa using hx
            have h1 : 0 + i * Rep.sz UInt8 + 0 = i := by simp [Rep.sz]
            rw [h1, World.cell?, hbk]
            exact Hdone.out i hi (by omega)
          have hcv := run_bytes_string (P := Tryz.prog) hsl' 48 9 5 16 Tryz.underlying48 Tryz.underlying5 Tryz.underlying9
          have Hr := Lib.hid (digestS_eq (l := l) (h := H) (by rw [← HH.out, Hl.out]))
          generalize (⟨((List.range 16).map fun i => hexChar (H / 16 ^ (15 - i) % 16)).toArray⟩ : ByteArray) = r at *
          clear hbk hsz hsl'
          go_wp2
          go_ret
          exact ⟨ret_string Hr.out.symm, hbel⟩
end Go.Proofs.Sm

namespace Go.Proofs.Sm
open Go.RowKit

set_option maxRecDepth 100000 in
theorem ref1_Digest (A : Option Addr) (n c : Nat) (l : List UInt8) (w : World) (hsl : Sl w (Lt w.heap.size) A n l) : Calls Tryz.prog 62 #[.slice A n c] w fun e w' => e = .returned (.string (digestS l)) ∧ w = w' := by
  have hm : n ≤ 9223372036854775807 := hsl.2.1
  go_enter Tryz.func62, Tryz.ntmps62
  go_wp2
  go_loop [3, 4] (fun h i => ∃ k : Nat, k ≤ n ∧ i = .int .i64 k ∧ h = .int .u64 (fnv (l.take k) : Nat)) (fun _ i => n - (intOf i).toNat)
  case atStart => exact ⟨0, Nat.zero_le _, rfl, by rw [fnv_zero]; rfl⟩
  case round =>
    obtain ⟨k, hk, rfl, rfl⟩ := hrel
    by_cases hlt : k < n
    · obtain ⟨b, o, x, rfl, hb, hx, c0⟩ := hsl.byte hlt
      have Hs := Lib.hid (fnv_succ hx); clear hx
      have Hw := Lib.hid (fnv_walk _ (fnv_lt (l.take k)) x)
      have h0 : (0 : Int) ≤ (fnv (l.take k) : Nat) := Int.natCast_nonneg _
      go_wp2
      go_round
      case rel => exact ⟨k + 1, by omega, by go_num, by rw [Hw.out, Hs.out]⟩
      case measure => simp [intOf]; omega
    · have Hl := Lib.hid (show l.take k = l from List.take_of_length_le (by rw [hsl.1]; omega))
      have HU := Lib.hid (fnv_lt (l.take k))
      generalize hH : fnv (l.take k) = H at *
      have HH := Lib.hid hH; clear hH
      go_wp2
      go_loop [5, 6, 7] (fun s i _ => ∃ j : Nat, j ≤ 16 ∧ i = .int .i64 (60 - 4 * (j : Int)) ∧ s = .string ⟨((List.range j).map fun i => hexChar (H / 16 ^ (15 - i) % 16)).toArray⟩) (fun _ i _ => (intOf i + 4).toNat)
      case atStart => exact ⟨0, by omega, rfl, rfl⟩
      case round =>
        obtain ⟨j, hj, rfl, rfl⟩ := hrel
        by_cases hj' : j < 16
        · have hdg := digit_shift H j hj'
          have hlt16 : H / 16 ^ (15 - j) % 16 < 16 := Nat.mod_lt _ (by decide)
          generalize hd : H / 16 ^ (15 - j) % 16 = d at *
          have Hd := Lib.hid hd; clear hd
          have hwr : IntKind.u64.wrap ((d : Int) + 1) = (d : Int) + 1 := by rw [IntKind.wrap_u64]; omega
          have hle : (d : Int) + 1 ≤ 16 := by omega
          go_wp2
          go_round
          case rel => exact ⟨j + 1, by omega, by congr 1; omega, by rw [hexPiece d hlt16, bytes_append, List.range_succ, List.map_append, List.map_cons, List.map_nil, Hd.out]⟩
          case measure => simp [intOf]; omega
        · obtain rfl : j = 16 := by omega
          have Hr := Lib.hid (digestS_eq (l := l) (h := H) (by rw [← HH.out, Hl.out]))
          generalize (⟨((List.range 16).map fun i => hexChar (H / 16 ^ (15 - i) % 16)).toArray⟩ : ByteArray) = r at *
          go_wp2
          go_ret
          exact ⟨ret_string Hr.out.symm, rfl⟩
end Go.Proofs.Sm

namespace Go.Proofs.Sm
open Go.RowKit

set_option maxRecDepth 100000 in
theorem act_CheckLooks (A : Option Addr) (n c : Nat) (l : List Look) (w : World) (hE : Env w) (hsl : Sl w (Lt w.heap.size) A n l) : Calls Tryz.prog 52 #[.slice A n c] w fun e w' => e = .returned (.int .i64 (checkLooksS l)) ∧ Below w.heap.size w w' := by
  have hm : n ≤ 9223372036854775807 := hsl.2.1
  have HL := Lib.hid hsl.1
  by_cases hbig : (4000 : Int) < n
  · go_enter Tryz.func52, Tryz.ntmps52
    go_wp2
    go_ret; exact ⟨ret_int (by rw [checkLooksS, HL.out, if_pos hbig]), Below.refl _ _⟩
  have Hd := Lib.hid (show checkLooksS l = looksErr (ahead Look.path l 0) (l.drop 0) by rw [checkLooksS, HL.out, if_neg hbig]; rfl)
  go_enter Tryz.func52, Tryz.ntmps52
  go_wp2
  go_loopw [10] (fun i wr => ∃ k : Nat, k ≤ n ∧ i = .int .i64 k ∧ checkLooksS l = looksErr (ahead Look.path l k) (l.drop k) ∧ Below w.heap.size w wr) (fun i _ => n - (intOf i).toNat)
  case atStart => exact ⟨0, Nat.zero_le _, rfl, Hd.out, Below.refl _ _⟩
  case round =>
    obtain ⟨k, hk, rfl, hd, hbel⟩ := hrel
    have Hr := Lib.hid hd; clear hd
    by_cases hlt : k < n
    · obtain ⟨b, o, x, rfl, hb, hx, hs1, hs2, c0, c1, c2⟩ := (hsl.keep (keep_lt hbel)).look hlt
      have hbw : b < wr.heap.size := Nat.lt_of_lt_of_le hb hbel.size
      have HX := Lib.hid hx; clear hx
      have hEr := hE.then_ hbel
      cases hp : isPathS x.path
      · have HV := Lib.hid (lookErr_path (prev := ahead Look.path l k) hp)
        go_wp2_with (first
        | (go_at_call 75; refine (blob_IsPath _ _ (hEr.alloc _)).mono ?_; rintro e w1 ⟨rfl, hb1⟩; obtain ⟨hc1, hf1⟩ := bcell hb1; have hz1 := grew hb1)
        | (go_at_call 89; refine (blob_IsDigest _ _ hs2).mono ?_; rintro e w2 ⟨rfl, hb2⟩; obtain ⟨hc2, hf2⟩ := bcell hb2))
        go_ret
        exact ⟨ret_int (by rw [Hr.out]; exact (looks_stop HX.out HV.out (by decide)).symm), fr_box hbel hb1⟩
      cases he : x.digest.toList.isEmpty
      · have he' : x.digest.toList ≠ [] := by simpa using he
        cases hdg : isDigestS x.digest
        · have HV := Lib.hid (lookErr_digest (prev := ahead Look.path l k) hp he hdg)
          go_wp2_with (first
          | (go_at_call 75; refine (blob_IsPath _ _ (hEr.alloc _)).mono ?_; rintro e w1 ⟨rfl, hb1⟩; obtain ⟨hc1, hf1⟩ := bcell hb1; have hz1 := grew hb1)
          | (go_at_call 89; refine (blob_IsDigest _ _ hs2).mono ?_; rintro e w2 ⟨rfl, hb2⟩; obtain ⟨hc2, hf2⟩ := bcell hb2))
          go_ret
          exact ⟨ret_int (by rw [Hr.out]; exact (looks_stop HX.out HV.out (by decide)).symm), fr_call (fr_box hbel hb1) hb2⟩
        · have HO := Lib.hid (lookErr_rest (prev := ahead Look.path l k) hp (.inl ⟨he, hdg⟩))
          by_cases hk0 : 0 < k
          · have hg : decide ((0 : Int) < (k : Int)) = true := by simpa using hk0
            obtain ⟨_, _, y, e0, _, hy, _, _, d0, _, _⟩ := (hsl.keep (keep_lt hbel)).look (k := k - 1) (by omega)
            cases e0
            have HA := Lib.hid (ahead_pos (f := Look.path) hk0 hy); clear hy
            cases hle : leS x.path y.path
            · have HV := Lib.hid (show lookErr (ahead Look.path l k) x = 0 by rw [HO.out, HA.out]; simp [notAfter, hle])
              have hle' := leS_false hle
              go_wp2_with (first
              | (go_at_call 75; refine (blob_IsPath _ _ (hEr.alloc _)).mono ?_; rintro e w1 ⟨rfl, hb1⟩; obtain ⟨hc1, hf1⟩ := bcell hb1; have hz1 := grew hb1)
              | (go_at_call 89; refine (blob_IsDigest _ _ hs2).mono ?_; rintro e w2 ⟨rfl, hb2⟩; obtain ⟨hc2, hf2⟩ := bcell hb2))
              have d1 : w2.cell? ⟨b, o + (k - 1) * 3, none⟩ = some (.string y.path) := by rw [hb2.cell (by show b < _; omega), hb1.cell (by show b < _; simp; omega), World.cell?_alloc_lt _ _ _ (by exact hbw)]; exact d0
              have g1 := IntWalk.i64_in ((k : Int) - 1) ⟨by omega, by omega⟩; have g2 : ((k : Int) - 1).toNat = k - 1 := (by omega); have g3 : (0 : Int) ≤ (k : Int) - 1 := (by omega); have g4 : (k : Int) - 1 < n := (by omega)
              go_quiet (fail)
              clear g1 g2 g3 g4
              go_wp2
              (go_round; (case rel => exact ⟨k + 1, by omega, by go_num, by rw [Hr.out]; exact looks_round HX.out HV.out, below_drewN (by first | exact fr_box hbel hb1 | exact fr_call (fr_box hbel hb1) hb2) _⟩); (case measure => simp [intOf]; omega))
            · have HV := Lib.hid (show lookErr (ahead Look.path l k) x = 8 by rw [HO.out, HA.out]; simp [notAfter, hle])
              have hle' := leS_true hle
              go_wp2_with (first
              | (go_at_call 75; refine (blob_IsPath _ _ (hEr.alloc _)).mono ?_; rintro e w1 ⟨rfl, hb1⟩; obtain ⟨hc1, hf1⟩ := bcell hb1; have hz1 := grew hb1)
              | (go_at_call 89; refine (blob_IsDigest _ _ hs2).mono ?_; rintro e w2 ⟨rfl, hb2⟩; obtain ⟨hc2, hf2⟩ := bcell hb2))
              have d1 : w2.cell? ⟨b, o + (k - 1) * 3, none⟩ = some (.string y.path) := by rw [hb2.cell (by show b < _; omega), hb1.cell (by show b < _; simp; omega), World.cell?_alloc_lt _ _ _ (by exact hbw)]; exact d0
              have g1 := IntWalk.i64_in ((k : Int) - 1) ⟨by omega, by omega⟩; have g2 : ((k : Int) - 1).toNat = k - 1 := (by omega); have g3 : (0 : Int) ≤ (k : Int) - 1 := (by omega); have g4 : (k : Int) - 1 < n := (by omega)
              go_quiet (fail)
              clear g1 g2 g3 g4
              go_wp2
              go_ret
              exact ⟨ret_int (by rw [Hr.out]; exact (looks_stop HX.out HV.out (by decide)).symm), below_drewN (fr_call (fr_box hbel hb1) hb2) _⟩
          · have hg : decide ((0 : Int) < (k : Int)) = false := by simpa using hk0
            have HV := Lib.hid (show lookErr (ahead Look.path l k) x = 0 by rw [HO.out, show ahead Look.path l k = none by simp [ahead]; omega]; rfl)
            go_wp2_with (first
            | (go_at_call 75; refine (blob_IsPath _ _ (hEr.alloc _)).mono ?_; rintro e w1 ⟨rfl, hb1⟩; obtain ⟨hc1, hf1⟩ := bcell hb1; have hz1 := grew hb1)
            | (go_at_call 89; refine (blob_IsDigest _ _ hs2).mono ?_; rintro e w2 ⟨rfl, hb2⟩; obtain ⟨hc2, hf2⟩ := bcell hb2))
            go_quiet (fail)
            go_wp2
            (go_round; (case rel => exact ⟨k + 1, by omega, by go_num, by rw [Hr.out]; exact looks_round HX.out HV.out, below_drewN (by first | exact fr_box hbel hb1 | exact fr_call (fr_box hbel hb1) hb2) _⟩); (case measure => simp [intOf]; omega))
      · have he' : x.digest.toList = [] := by simpa using he
        cases hrn : x.run
        · have HO := Lib.hid (lookErr_rest (prev := ahead Look.path l k) hp (.inr ⟨he, hrn⟩))
          by_cases hk0 : 0 < k
          · have hg : decide ((0 : Int) < (k : Int)) = true := by simpa using hk0
            obtain ⟨_, _, y, e0, _, hy, _, _, d0, _, _⟩ := (hsl.keep (keep_lt hbel)).look (k := k - 1) (by omega)
            cases e0
            have HA := Lib.hid (ahead_pos (f := Look.path) hk0 hy); clear hy
            cases hle : leS x.path y.path
            · have HV := Lib.hid (show lookErr (ahead Look.path l k) x = 0 by rw [HO.out, HA.out]; simp [notAfter, hle])
              have hle' := leS_false hle
              go_wp2_with (first
              | (go_at_call 75; refine (blob_IsPath _ _ (hEr.alloc _)).mono ?_; rintro e w1 ⟨rfl, hb1⟩; obtain ⟨hc1, hf1⟩ := bcell hb1; have hz1 := grew hb1)
              | (go_at_call 89; refine (blob_IsDigest _ _ hs2).mono ?_; rintro e w2 ⟨rfl, hb2⟩; obtain ⟨hc2, hf2⟩ := bcell hb2))
              have d1 : w1.cell? ⟨b, o + (k - 1) * 3, none⟩ = some (.string y.path) := by rw [hb1.cell (by show b < _; simp; omega), World.cell?_alloc_lt _ _ _ (by exact hbw)]; exact d0
              have g1 := IntWalk.i64_in ((k : Int) - 1) ⟨by omega, by omega⟩; have g2 : ((k : Int) - 1).toNat = k - 1 := (by omega); have g3 : (0 : Int) ≤ (k : Int) - 1 := (by omega); have g4 : (k : Int) - 1 < n := (by omega)
              go_quiet (fail)
              clear g1 g2 g3 g4
              go_wp2
              (go_round; (case rel => exact ⟨k + 1, by omega, by go_num, by rw [Hr.out]; exact looks_round HX.out HV.out, below_drewN (by first | exact fr_box hbel hb1 | exact fr_call (fr_box hbel hb1) hb2) _⟩); (case measure => simp [intOf]; omega))
            · have HV := Lib.hid (show lookErr (ahead Look.path l k) x = 8 by rw [HO.out, HA.out]; simp [notAfter, hle])
              have hle' := leS_true hle
              go_wp2_with (first
              | (go_at_call 75; refine (blob_IsPath _ _ (hEr.alloc _)).mono ?_; rintro e w1 ⟨rfl, hb1⟩; obtain ⟨hc1, hf1⟩ := bcell hb1; have hz1 := grew hb1)
              | (go_at_call 89; refine (blob_IsDigest _ _ hs2).mono ?_; rintro e w2 ⟨rfl, hb2⟩; obtain ⟨hc2, hf2⟩ := bcell hb2))
              have d1 : w1.cell? ⟨b, o + (k - 1) * 3, none⟩ = some (.string y.path) := by rw [hb1.cell (by show b < _; simp; omega), World.cell?_alloc_lt _ _ _ (by exact hbw)]; exact d0
              have g1 := IntWalk.i64_in ((k : Int) - 1) ⟨by omega, by omega⟩; have g2 : ((k : Int) - 1).toNat = k - 1 := (by omega); have g3 : (0 : Int) ≤ (k : Int) - 1 := (by omega); have g4 : (k : Int) - 1 < n := (by omega)
              go_quiet (fail)
              clear g1 g2 g3 g4
              go_wp2
              go_ret
              exact ⟨ret_int (by rw [Hr.out]; exact (looks_stop HX.out HV.out (by decide)).symm), below_drewN (fr_box hbel hb1) _⟩
          · have hg : decide ((0 : Int) < (k : Int)) = false := by simpa using hk0
            have HV := Lib.hid (show lookErr (ahead Look.path l k) x = 0 by rw [HO.out, show ahead Look.path l k = none by simp [ahead]; omega]; rfl)
            go_wp2_with (first
            | (go_at_call 75; refine (blob_IsPath _ _ (hEr.alloc _)).mono ?_; rintro e w1 ⟨rfl, hb1⟩; obtain ⟨hc1, hf1⟩ := bcell hb1; have hz1 := grew hb1)
            | (go_at_call 89; refine (blob_IsDigest _ _ hs2).mono ?_; rintro e w2 ⟨rfl, hb2⟩; obtain ⟨hc2, hf2⟩ := bcell hb2))
            go_quiet (fail)
            go_wp2
            (go_round; (case rel => exact ⟨k + 1, by omega, by go_num, by rw [Hr.out]; exact looks_round HX.out HV.out, below_drewN (by first | exact fr_box hbel hb1 | exact fr_call (fr_box hbel hb1) hb2) _⟩); (case measure => simp [intOf]; omega))
        · have HV := Lib.hid (lookErr_run (prev := ahead Look.path l k) hp he hrn)
          go_wp2_with (first
          | (go_at_call 75; refine (blob_IsPath _ _ (hEr.alloc _)).mono ?_; rintro e w1 ⟨rfl, hb1⟩; obtain ⟨hc1, hf1⟩ := bcell hb1; have hz1 := grew hb1)
          | (go_at_call 89; refine (blob_IsDigest _ _ hs2).mono ?_; rintro e w2 ⟨rfl, hb2⟩; obtain ⟨hc2, hf2⟩ := bcell hb2))
          go_ret
          exact ⟨ret_int (by rw [Hr.out]; exact (looks_stop HX.out HV.out (by decide)).symm), fr_box hbel hb1⟩
    · go_wp2
      go_ret
      exact ⟨ret_int (by rw [Hr.out, List.drop_eq_nil_of_le (by rw [hsl.1]; omega)]; rfl), hbel⟩
end Go.Proofs.Sm

namespace Go.Proofs.Sm
open Go.RowKit

end Go.Proofs.Sm
