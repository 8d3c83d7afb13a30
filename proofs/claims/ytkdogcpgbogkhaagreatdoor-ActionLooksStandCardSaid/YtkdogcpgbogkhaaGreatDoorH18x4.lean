/- Plain words: an action's looks are right ones, and stand. No program is in sight here. -/
import Derived.Test.YtkdogcpgbogkhaaGreatDoorH18x3
import Derived.Test.YtkdogcpgbogkhaaGreatDoorH18x2
import Derived.Lib.Replace
import Derived.Lib.SlicesCompact
import Derived.Test.YtkdogcpgbogkhaaGreatDoorH18x1
import Derived.Laws.OwnMore
namespace Go.Proofs.Sm
open Go.RowKit

theorem bl_lt : ∀ {a b : List UInt8}, Op.bytesLess a b = true ↔ a < b
  | [], [] => by simp [Op.bytesLess]
  | [], _ :: _ => by simp [Op.bytesLess]
  | _ :: _, [] => by simp [Op.bytesLess]
  | a :: l, b :: m => by
    rw [List.cons_lt_cons_iff, ← bl_lt (a := l) (b := m)]
    simp [Op.bytesLess]
theorem lt_bytes {x y : ByteArray} : ltS x y = true ↔ x.data.toList < y.data.toList := by
  unfold ltS
  rw [Lib.toList_data, Lib.toList_data, bl_lt]
theorem bytes_eq {x y : ByteArray} (h : x.data.toList = y.data.toList) : x = y := by
  obtain ⟨⟨x⟩⟩ := x
  obtain ⟨⟨y⟩⟩ := y
  simp at h
  subst h; rfl
section
variable {f : List UInt8 → Option Value} {l : List ByteArray} {s : ByteArray} {k : Nat}
/-- as it was -/
theorem KeysAre.same {g : List UInt8 → Option Value} (h : KeysAre f l) (hx : l[k - 1]? = some s) (hg : ∀ key, (g key).isSome = true ↔ (f key).isSome = true ∨ key = s.data.toList) : KeysAre g l := by
  refine ⟨h.sorted, fun key => ?_, h.size⟩
  rw [hg, ← h.mem]
  constructor
  · exact fun h1 => .inl h1
  · rintro (h1 | rfl)
    · exact h1
    · exact List.mem_map.2 ⟨s, List.mem_of_getElem? hx, rfl⟩
theorem KeysAre.put {g : List UInt8 → Option Value} (h : KeysAre f l) (hs : s.size ≤ maxLen) (hkl : k ≤ l.length) (hhi : ∀ (i : Nat) (x : ByteArray), k ≤ i → l[i]? = some x → s.data.toList < x.data.toList)
    (hlo : ∀ x, 0 < k → l[k - 1]? = some x → x.data.toList < s.data.toList) (hg : ∀ key, (g key).isSome = true ↔ (f key).isSome = true ∨ key = s.data.toList) : KeysAre g (l.take k ++ ([s] ++ l.drop k)) := by
  have hso := h.sorted
  have htk : ∀ x ∈ l.take k, x.data.toList < s.data.toList := by
    intro x hx
    obtain ⟨i, hi⟩ := List.getElem?_of_mem hx
    rw [List.getElem?_take] at hi
    split at hi
    · rename_i hik
      obtain ⟨y, hy⟩ := at_lt (l := l) (k := k - 1) (by omega)
      have h1 := hlo y (by omega) hy
      by_cases he : i = k - 1
      · rw [he, hy] at hi
        rw [← Option.some.inj hi]; exact h1
      · have h2 := List.pairwise_iff_getElem.1 hso i (k - 1) (List.getElem?_eq_some_iff.1 hi).1 (by omega) (by omega)
        rw [(List.getElem?_eq_some_iff.1 hi).2, (List.getElem?_eq_some_iff.1 hy).2] at h2
        exact List.lt_trans h2 h1
    · cases hi
  have hdk : ∀ x ∈ l.drop k, s.data.toList < x.data.toList := by
    intro x hx
    obtain ⟨i, hi⟩ := List.getElem?_of_mem hx
    rw [List.getElem?_drop] at hi
    exact hhi (k + i) x (by omega) hi
  have hsp : (l.take k ++ l.drop k).Pairwise fun x y => x.data.toList < y.data.toList := by rw [List.take_append_drop]; exact hso
  rw [List.pairwise_append] at hsp
  refine ⟨?_, fun key => ?_, fun x hx => ?_⟩
  · rw [List.pairwise_append]
    refine ⟨hsp.1, ?_, fun x hx y hy => ?_⟩
    · rw [List.singleton_append, List.pairwise_cons]
      exact ⟨hdk, hsp.2.1⟩
    · rcases List.mem_append.1 hy with h1 | h1
      · obtain rfl : y = s := by simpa using h1
        exact htk x hx
      · exact hsp.2.2 x hx y h1
  · rw [hg, ← h.mem, List.map_append, List.map_append, List.mem_append, List.mem_append]
    have hm : key ∈ l.map (·.data.toList) ↔ key ∈ (l.take k).map (·.data.toList) ∨ key ∈ (l.drop k).map (·.data.toList) := by
      rw [← List.mem_append, ← List.map_append, List.take_append_drop]
    rw [hm]
    simp only [List.map_cons, List.map_nil, List.mem_singleton]
    constructor
    · rintro (h1 | h1 | h1)
      · exact .inl (.inl h1)
      · exact .inr h1
      · exact .inl (.inr h1)
    · rintro ((h1 | h1) | h1)
      · exact .inl h1
      · exact .inr (.inr h1)
      · exact .inr (.inl h1)
  · rcases List.mem_append.1 hx with h1 | h1
    · exact h.size x (List.mem_of_mem_take h1)
    · rcases List.mem_append.1 h1 with h1 | h1
      · obtain rfl : x = s := by simpa using h1
        exact hs
      · exact h.size x (List.mem_of_mem_drop h1)
end
end Go.Proofs.Sm

namespace Go.Proofs.Sm
open Go.RowKit

/-- where an action is executed: what it wrote and looked at, by path; what it told; the bytes it wrote -/
structure ExSt where
  written : List FileV
  looks : List Look
  told : List UInt8
  total : Nat
def noteS (l : List Look) (x : Look) : List Look :=
  if l.any (fun y => y.path.toList == x.path.toList) then l else l.filter (fun y => ltS y.path x.path) ++ [x] ++ l.filter (fun y => ltS x.path y.path)
def putFileS (l : List FileV) (x : FileV) : List FileV := l.filter (fun y => ltS y.path x.path) ++ [x] ++ l.filter (fun y => ltS x.path y.path)
def putStrS (l : List ByteArray) (x : ByteArray) : List ByteArray := l.filter (fun y => ltS y x) ++ [x] ++ l.filter (fun y => ltS x y)
abbrev Ex (α : Type) := List FileV → ExSt → α × ExSt
section
variable {α β : Type}
def Ex.ret (a : α) : Ex α := fun _ s => (a, s)
def Ex.bind (m : Ex α) (f : α → Ex β) : Ex β := fun F s => f (m F s).1 F (m F s).2
end
def findE (p : ByteArray) : Ex (Option FileV) := fun F s => match s.written.find? (eqp p) with
  | some x => (some x, s)
  | none => (F.find? (eqp p), { s with looks := noteS s.looks (lookAtS F p) })
/-- bytes, or a code -/
def readE (p : ByteArray) : Ex (List UInt8 × Int) := (findE p).bind fun x => match x with
  | none => .ret ([], 2)
  | some x => .ret (x.bytes, 0)
def oldLen (l : List FileV) (p : ByteArray) : Nat := match l.find? (eqp p) with
  | none => 0
  | some x => x.bytes.length
def writeE (outs : List ByteArray) (p : ByteArray) (b : List UInt8) (run : Bool) : Ex Int := fun _ s =>
  if outs.any (fun o => o.toList == p.toList) = false then (3, s)
  else if 100000 < b.length ∨ 2000000 < (s.total : Int) - (oldLen s.written p : Int) + (b.length : Int) then (5, s)
  else (0, { s with total := s.total - oldLen s.written p + b.length, written := putFileS s.written ⟨p, run, b⟩ })

/-! ### Lines -/
def linesS : List UInt8 → List (List UInt8)
  | [] => []
  | c :: r => if c = 10 then [10] :: linesS r else match linesS r with
    | [] => [[c]]
    | x :: xs => if x = [10] then [c, 10] :: xs else (c :: x) :: xs
def cutNl (s : List UInt8) : List UInt8 := Lib.trimSuffix s [10]
def endedS (s : List UInt8) : List UInt8 := cutNl s ++ [10]
def sortLinesS (b : List UInt8) : List UInt8 := (Lib.compact (((linesS b).map cutNl).mergeSort fun x y => decide (x ≤ y))).flatMap fun s => s ++ [10]
/-- a line that includes a file -/
def incS (s : List UInt8) : Option ByteArray :=
  if Lib.hasPrefix (cutNl s) [105, 110, 99, 108, 117, 100, 101, 32] then (if isPathS ⟨((cutNl s).drop 8).toArray⟩ then some ⟨((cutNl s).drop 8).toArray⟩ else none) else none
/-- the lines of a file, of which some include others -/
def eachE (f : ByteArray → List UInt8 → Nat → Ex (List UInt8 × Nat × Int)) : List (List UInt8) → List UInt8 → Nat → Ex (List UInt8 × Nat × Int)
  | [], o, r => .ret (o, r, 0)
  | s :: rest, o, r => match incS s with
    | some p => (f p o r).bind fun x => if x.2.2 = 0 then eachE f rest x.1 x.2.1 else .ret x
    | none => if 100000 < (o ++ endedS s).length then .ret (o ++ endedS s, r, 5) else eachE f rest (o ++ endedS s) r
def fileE : Nat → List ByteArray → ByteArray → List UInt8 → Nat → Ex (List UInt8 × Nat × Int)
  | 0, _, _, o, r => .ret (o, r, 4)
  | fuel + 1, inn, p, o, r =>
    if inn.any (fun q => q.toList == p.toList) = true ∨ 30 < inn.length then .ret (o, r, 4)
    else (readE p).bind fun x => if x.2 = 0 then (if 10000 < r + 1 then .ret (o, r + 1, 4) else eachE (fileE fuel (inn ++ [p])) (linesS x.1) o (r + 1)) else .ret (o, r, x.2)

/-! ### What makes bytes -/
def joinedE : List ByteArray → List UInt8 → Ex (List UInt8 × Int)
  | [], o => .ret (o, 0)
  | p :: rest, o => (readE p).bind fun x => if x.2 = 0 then joinedE rest (o ++ x.1) else .ret ([], x.2)
def pickE : List ByteArray → Ex (List UInt8 × Int)
  | [] => .ret ([], 2)
  | p :: rest => (findE p).bind fun x => match x with
    | some y => .ret (y.bytes, 0)
    | none => pickE rest
/-- paths of what there is, by path -/
def pathsS (F : List FileV) (s : ExSt) : List ByteArray := (F.map (·.path) ++ s.written.map (·.path)).foldl putStrS []
def withinS (p q : ByteArray) : Bool := liesS p q
def listsE (q : ByteArray) : List ByteArray → List UInt8 → Ex (List UInt8)
  | [], o => .ret o
  | p :: rest, o => if withinS p q then (findE p).bind fun _ => listsE q rest (o ++ p.data.toList ++ [10]) else listsE q rest o
def listE (q : ByteArray) : Ex (List UInt8) := (findE q).bind fun _ => fun F s => listsE q (pathsS F s) [] F s
def valueS (vars : List VarV) (n : ByteArray) : List UInt8 × Int := match vars.find? (fun v => v.name.toList == n.toList) with
  | some v => (v.value.data.toList ++ [10], 0)
  | none => ([], 4)
def wordAt (c : List ByteArray) (i : Nat) : ByteArray := (c[i]?).getD ⟨#[]⟩
/-- what a command makes of the bytes that it reads -/
def ofBytes (c : List ByteArray) (b : List UInt8) : List UInt8 :=
  let w := (wordAt c 0).data.toList
  if w = [115, 111, 114, 116] then sortLinesS b
  else if w = [99, 111, 117, 110, 116] then Lib.itoa (linesS b).length ++ [10]
  else if w = [102, 105, 114, 115, 116] then ((linesS b).take (numS (wordAt c 2))).flatten
  else if w = [99, 104, 97, 110, 103, 101] then Lib.replaceAll b (wordAt c 2).data.toList (wordAt c 3).data.toList
  else if w = [100, 105, 103, 101, 115, 116] then (digestS b).data.toList ++ [10]
  else b
def madeE (vars : List VarV) (c : List ByteArray) : Ex (List UInt8 × Int) :=
  let w := (wordAt c 0).data.toList
  if w = [106, 111, 105, 110] then joinedE (c.drop 2) []
  else if w = [101, 120, 112, 97, 110, 100] then (fileE 32 [] (wordAt c 2) [] 0).bind fun x => .ret (x.1, x.2.2)
  else if w = [112, 105, 99, 107] then pickE (c.drop 2)
  else if w = [108, 105, 115, 116] then (listE (wordAt c 2)).bind fun x => .ret (x, 0)
  else if w = [118, 97, 114] then .ret (valueS vars (wordAt c 2))
  else (readE (wordAt c (c.length - 1))).bind fun x => if x.2 = 0 then .ret (ofBytes c x.1, 0) else .ret ([], x.2)

/-! ### Commands -/
def tellE (ws : List ByteArray) : Ex Int := fun _ s =>
  if 100000 < (s.told ++ lineW ws).length then (5, s) else (0, { s with told := s.told ++ lineW ws })
def sameE (p q : ByteArray) : Ex Int := (readE p).bind fun x => if x.2 = 0 then (readE q).bind fun y => (if y.2 = 0 then (if x.1 = y.1 then .ret 0 else .ret 4) else .ret y.2) else .ret x.2
def doE (a : ActionV) (c : List ByteArray) : Ex Int :=
  let w := (wordAt c 0).data.toList
  if w = [116, 101, 108, 108] then tellE (c.drop 1)
  else if w = [110, 101, 101, 100] then (readE (wordAt c 1)).bind fun x => .ret x.2
  else if w = [115, 97, 109, 101] then sameE (wordAt c 1) (wordAt c 2)
  else if w = [102, 97, 105, 108] then .ret (numS (wordAt c 1) : Int)
  else (madeE a.vars c).bind fun x => if x.2 = 0 then writeE a.outputs (wordAt c 1) x.1 (w == [109, 97, 107, 101]) else .ret x.2
/-- the code, and which command failed -/
def runE (a : ActionV) : List (List ByteArray) → Nat → Ex (Int × Nat)
  | [], _ => fun _ s => (if s.written.length < a.outputs.length then (1, 0) else (0, 0), s)
  | c :: rest, i => (doE a c).bind fun x => if x = 0 then runE a rest (i + 1) else .ret (x, i + 1)
def startS : ExSt := ⟨[], [], [], 0⟩
def execS (a : ActionV) (F : List FileV) : ResultV :=
  let x := runE a a.commands 0 F startS
  ⟨x.1.1, ⟨x.2.told.toArray⟩, if x.1.1 = 0 then x.2.written else [], x.2.looks, x.1.2⟩

/-! ### What is asked for decides -/
def AgreeOn (F F' : List FileV) (l : List Look) : Prop := ∀ y ∈ l, F.find? (eqp y.path) = F'.find? (eqp y.path)
structure Local {α : Type} (m : Ex α) : Prop where
  grow : ∀ F s, ∀ y ∈ s.looks, y ∈ (m F s).2.looks
  same : ∀ F F' s, AgreeOn F F' (m F s).2.looks → m F' s = m F s
section
variable {α β : Type}
theorem local_ret (a : α) : Local (Ex.ret a) := ⟨fun _ _ _ h => h, fun _ _ _ _ => rfl⟩
theorem Local.bind {m : Ex α} {f : α → Ex β} (h : Local m) (hf : ∀ a, Local (f a)) : Local (m.bind f) := by
  refine ⟨fun F s y hy => (hf _).grow F _ y (h.grow F s y hy), fun F F' s hag => ?_⟩
  have h1 : m F' s = m F s := h.same F F' s fun y hy => hag y ((hf _).grow F _ y hy)
  unfold Ex.bind
  rw [h1]
  exact (hf _).same F F' _ hag
/-- what asks for nothing -/
theorem local_own {m : Ex α} (h1 : ∀ F s, (m F s).2.looks = s.looks) (h2 : ∀ F F' s, m F' s = m F s) : Local m :=
  ⟨fun F s y hy => by rw [h1]; exact hy, fun F F' s _ => h2 F F' s⟩
end
theorem note_old {l : List Look} {x y : Look} (h : y ∈ l) (hs : ∀ z ∈ l, ltS z.path x.path = true ∨ z.path.toList = x.path.toList ∨ ltS x.path z.path = true) : y ∈ noteS l x := by
  unfold noteS
  split
  · exact h
  · rename_i hn
    have hne : ¬ y.path.toList = x.path.toList := fun e => hn (List.any_eq_true.2 ⟨y, h, by simpa using e⟩)
    rcases hs y h with h1 | h1 | h1
    · exact List.mem_append.2 (.inl (List.mem_append.2 (.inl (List.mem_filter.2 ⟨h, h1⟩))))
    · exact absurd h1 hne
    · exact List.mem_append.2 (.inr (List.mem_filter.2 ⟨h, h1⟩))
theorem ltS_total (x y : ByteArray) : ltS x y = true ∨ x.toList = y.toList ∨ ltS y x = true := by
  cases h : ltS x y
  · by_cases e : x.toList = y.toList
    · exact .inr (.inl e)
    · exact .inr (.inr (bl_total h e))
  · exact .inl rfl
theorem note_has (l : List Look) (x : Look) : ∃ y ∈ noteS l x, y.path.toList = x.path.toList := by
  unfold noteS
  split
  · rename_i h
    obtain ⟨y, hy, he⟩ := List.any_eq_true.1 h
    exact ⟨y, hy, by simpa using he⟩
  · exact ⟨x, by simp, rfl⟩
theorem eqp_congr {p q : ByteArray} (h : p.toList = q.toList) : eqp p = eqp q := by
  funext y; rw [eqp, eqp, h]
theorem lookAt_path (F : List FileV) (p : ByteArray) : (lookAtS F p).path = p := by
  unfold lookAtS
  split <;> rfl
theorem local_find (p : ByteArray) : Local (findE p) := by
  refine ⟨fun F s y hy => ?_, fun F F' s hag => ?_⟩
  · unfold findE
    split
    · exact hy
    · exact note_old hy fun z _ => ltS_total _ _
  · unfold findE at hag ⊢
    cases hw : s.written.find? (eqp p) with
    | some x => rfl
    | none =>
      rw [hw] at hag
      obtain ⟨y, hy, he⟩ := note_has s.looks (lookAtS F p)
      rw [lookAt_path] at he
      have h1 := hag y hy
      rw [eqp_congr he] at h1
      have h2 : lookAtS F' p = lookAtS F p := by rw [lookAtS, lookAtS, h1]
      simp only [h1, h2]
theorem local_read (p : ByteArray) : Local (readE p) := (local_find p).bind fun x => by cases x <;> exact local_ret _
theorem local_write (outs : List ByteArray) (p : ByteArray) (b : List UInt8) (run : Bool) : Local (writeE outs p b run) :=
  local_own (fun F s => by unfold writeE; split <;> (try split) <;> rfl) fun _ _ _ => rfl
theorem local_tell (ws : List ByteArray) : Local (tellE ws) := local_own (fun F s => by unfold tellE; split <;> rfl) fun _ _ _ => rfl
theorem local_each {f : ByteArray → List UInt8 → Nat → Ex (List UInt8 × Nat × Int)} (hf : ∀ p o r, Local (f p o r)) : ∀ l o r, Local (eachE f l o r)
  | [], o, r => local_ret _
  | s :: rest, o, r => by
    unfold eachE
    split
    · refine (hf _ o r).bind fun x => ?_
      split
      · exact local_each hf rest _ _
      · exact local_ret _
    · split
      · exact local_ret _
      · exact local_each hf rest _ _
theorem local_file : ∀ fuel inn p o r, Local (fileE fuel inn p o r)
  | 0, _, _, _, _ => local_ret _
  | fuel + 1, inn, p, o, r => by
    unfold fileE
    split
    · exact local_ret _
    · refine (local_read p).bind fun x => ?_
      split
      · split
        · exact local_ret _
        · exact local_each (fun p o r => local_file fuel _ p o r) _ _ _
      · exact local_ret _
theorem local_joined : ∀ l o, Local (joinedE l o)
  | [], _ => local_ret _
  | p :: rest, o => by
    unfold joinedE
    refine (local_read p).bind fun x => ?_
    split
    · exact local_joined rest _
    · exact local_ret _
theorem local_pick : ∀ l, Local (pickE l)
  | [] => local_ret _
  | p :: rest => by
    unfold pickE
    refine (local_find p).bind fun x => ?_
    cases x
    · exact local_pick rest
    · exact local_ret _
/-- is a command list -/
def isList (c : List ByteArray) : Bool := (wordAt c 0).data.toList == [108, 105, 115, 116]
theorem local_made (vars : List VarV) (c : List ByteArray) (h : isList c = false) : Local (madeE vars c) := by
  unfold madeE
  have hl : ¬ (wordAt c 0).data.toList = [108, 105, 115, 116] := by simpa [isList] using h
  simp only [hl, if_false]
  split
  · exact local_joined _ _
  split
  · exact (local_file _ _ _ _ _).bind fun x => local_ret _
  split
  · exact local_pick _
  split
  · exact local_ret _
  · refine (local_read _).bind fun x => ?_
    split <;> exact local_ret _
theorem local_do (a : ActionV) (c : List ByteArray) (h : isList c = false) : Local (doE a c) := by
  unfold doE
  dsimp only
  split
  · exact local_tell _
  split
  · exact (local_read _).bind fun x => local_ret _
  split
  · unfold sameE
    refine (local_read _).bind fun x => ?_
    split
    · refine (local_read _).bind fun y => ?_
      split
      · split <;> exact local_ret _
      · exact local_ret _
    · exact local_ret _
  split
  · exact local_ret _
  · refine (local_made a.vars c h).bind fun x => ?_
    split
    · exact local_write _ _ _ _
    · exact local_ret _
theorem local_run (a : ActionV) : ∀ l i, l.any isList = false → Local (runE a l i)
  | [], _, _ => local_own (fun _ _ => rfl) fun _ _ _ => rfl
  | c :: rest, i, h => by
    rw [List.any_cons, Bool.or_eq_false_iff] at h
    unfold runE
    refine (local_do a c h.1).bind fun x => ?_
    split
    · exact local_run a rest _ h.2
    · exact local_ret _
/-- an action without list has the same result over all files that are the same where it looked -/
theorem looks_decide {a : ActionV} {F F' : List FileV} (h : a.commands.any isList = false) (hag : AgreeOn F F' (execS a F).looks) : execS a F' = execS a F := by
  have h1 := (local_run a a.commands 0 h).same F F' startS hag
  unfold execS
  rw [h1]
end Go.Proofs.Sm

namespace Go.Proofs.Sm
open Go.RowKit

section
variable {w w' : World} {B : Nat}
theorem RowK.slKind {α : Type} [Rep α] {e : TypeId} {v : Value} {l : List α} (h : RowK w B e (fun _ => False) v l) : ∃ A c, v = .slice A l.length c ∧ l.length ≤ c ∧ c ≤ maxLen ∧ Sl w (Kind e w) A l.length l := by
  have hkind := h.kind
  obtain ⟨hk, rows, hr, hown, hrep⟩ := id h
  obtain ⟨A, c, rfl, h1, h2, h3⟩ := h.sl
  refine ⟨A, c, rfl, h1, h2, h3.1, h3.2.1, fun hn => ?_⟩
  obtain ⟨b, o, rfl, hb, hc⟩ := h3.2.2 hn
  have hkb := (hkind b rfl).2
  have hown' := hown.2
  rcases hown' with ⟨h4, _⟩ | ⟨g, cap, cur, h4, hbg, hh, _⟩
  · cases h4
  · cases h4
    refine ⟨_, 0, rfl, hkb, fun i x hx => ?_⟩
    obtain ⟨vs, _, hat⟩ := hc i x hx
    have hi : i < l.length := (List.getElem?_eq_some_iff.1 hx).1
    have hri : rows[i]? = some (rows[i]'(by omega)) := List.getElem?_eq_getElem (by omega)
    have hrp := hrep i x _ hx hri
    refine ⟨rows[i]'(by omega), Rep.more (fun _ hf => hf.elim) hrp, fun j u hu => ?_⟩
    have hlens : ∀ r ∈ rows, r.length = Rep.sz α := by
      intro r hr2
      obtain ⟨i, hi⟩ := List.getElem?_of_mem hr2
      have hi2 := (List.getElem?_eq_some_iff.1 hi).1
      exact Rep.len (hrep i l[i] r (List.getElem?_eq_getElem (by omega)) hi)
    have hj : j < Rep.sz α := by
      have := (List.getElem?_eq_some_iff.1 hu).1
      rw [hlens _ (List.mem_of_getElem? hri)] at this
      exact this
    have h5 := hown.cells (g := _) rfl (i * Rep.sz α + j) u (by rw [flatten_at hlens hri hj]; exact hu)
    rw [addr_add] at h5
    rw [← h5]
    congr 2
    omega
/-- what is left alone by a call over older blocks -/
theorem RowOwn.below {α : Type} [Rep α] {e ty : TypeId} {v : Value} {l : List α} {C : Nat} (h : RowOwn w B e ty v l) (hC : w.heap.size ≤ C) (hb : Below C w w') : RowOwn w' B e ty v l := h.call (hb.mono hC)
end
end Go.Proofs.Sm

namespace Go.Proofs.Sm
open Go.RowKit

theorem size_setCell' (w : World) (p : Addr) (u : Value) : (w.setCell p u).heap.size = w.heap.size := by simp
theorem flatten_set {sz : Nat} {u : Value} : ∀ {rows : List (List Value)} {i j : Nat} {r : List Value}, (∀ r ∈ rows, r.length = sz) → rows[i]? = some r → j < sz → (rows.set i (r.set j u)).flatten = rows.flatten.set (i * sz + j) u
  | [], i, j, r, _, h, _ => by simp at h
  | a :: rows, 0, j, r, hl, h, hj => by
    obtain rfl : a = r := by simpa using h
    have ha := hl a (by simp)
    rw [List.set_cons_zero, List.flatten_cons, List.flatten_cons, Nat.zero_mul, Nat.zero_add, List.set_append_left _ _ (by rw [ha]; exact hj)]
  | a :: rows, i + 1, j, r, hl, h, hj => by
    have h' : rows[i]? = some r := by simpa using h
    have ha := hl a (by simp)
    rw [List.set_cons_succ, List.flatten_cons, List.flatten_cons, flatten_set (fun r hr => hl r (by simp [hr])) h' hj, List.set_append_right _ _ (by rw [ha, Nat.succ_mul]; omega)]
    congr 2
    rw [ha, Nat.succ_mul]
    omega
section
variable {α : Type} [Rep α] {w w' : World} {B : Nat} {e : TypeId} {K : Nat → Prop} {v : Value} {l : List α}
theorem RowK.setElem {g n cap i j : Nat} {x : α} {u : Value} (h : RowK w B e K (.slice (some ⟨g, 0, none⟩) n cap) l) (hg : ¬ K g) (hi : l[i]? = some x) (hj : j < Rep.sz α)
    (hnew : ∀ r, Rep.rep w K x r → Rep.rep w K x (r.set j u)) : RowK (w.setCell ⟨g, i * Rep.sz α + j, none⟩ u) B e K (.slice (some ⟨g, 0, none⟩) n cap) l := by
  obtain ⟨_, _, hv⟩ := h.form
  cases hv
  obtain ⟨hk, rows, hr, hown, hrep⟩ := h
  have hil : i < l.length := (List.getElem?_eq_some_iff.1 hi).1
  have hlens : ∀ r ∈ rows, r.length = Rep.sz α := by
    intro r hr2
    obtain ⟨i, hi⟩ := List.getElem?_of_mem hr2
    have hi2 := (List.getElem?_eq_some_iff.1 hi).1
    exact Rep.len (hrep i l[i] r (List.getElem?_eq_getElem (by omega)) hi)
  obtain ⟨r, hri⟩ := at_lt (l := rows) (k := i) (by omega)
  have hkeep : ∀ k, K k → (w.setCell ⟨g, i * Rep.sz α + j, none⟩ u).heap[k]? = w.heap[k]? := fun k hh => heap_setCell_other w _ k u (by rintro rfl; exact hg hh)
  refine ⟨fun k hh => by simpa using hk k hh, rows.set i (r.set j u), by simp [hr], ?_, fun i' x' r' hx' hr' => Rep.keep hkeep ?_⟩
  · rw [flatten_set hlens hri hj]
    exact (hown.stored _ u).1
  · rw [List.getElem?_set] at hr'
    split at hr'
    · rename_i e1
      subst e1
      rw [if_pos (by omega)] at hr'
      obtain rfl := Option.some.inj hr'
      rw [hi] at hx'
      obtain rfl := Option.some.inj hx'
      exact hnew r (hrep i x r hi hri)
    · exact hrep i' x' r' hx' hr'
/-- what its elements are does not lead anywhere -/
theorem RowK.flat (hf : ∀ {w : World} {S S' : Nat → Prop} {x : α} {vs : List Value}, Rep.rep w S x vs → Rep.rep w S' x vs) (h : RowK w B e K v l) : RowK w B e (fun _ => False) v l := by
  obtain ⟨_, rows, hr, hown, hrep⟩ := h
  exact ⟨fun _ h => h.elim, rows, hr, hown, fun i x r hx hr => hf (hrep i x r hx hr)⟩
theorem RowK.frozenAt {g n cap : Nat} (h : RowK w B e K (.slice (some ⟨g, 0, none⟩) n cap) l) (j : Nat) : w.frozen? ⟨g, j, none⟩ = false := by
  obtain ⟨_, _, hv⟩ := h.form
  cases hv
  obtain ⟨_, rows, _, hown, _⟩ := h
  exact hown.frozenAt j
/-- the cells of one element -/
theorem RowK.elem {g n cap i : Nat} {x : α} (h : RowK w B e K (.slice (some ⟨g, 0, none⟩) n cap) l) (hi : l[i]? = some x) : ∃ r, Rep.rep w K x r ∧ ∀ j u, r[j]? = some u → w.cell? ⟨g, i * Rep.sz α + j, none⟩ = some u := by
  obtain ⟨_, _, hv⟩ := h.form
  cases hv
  obtain ⟨_, rows, hr, hown, hrep⟩ := h
  have hil : i < l.length := (List.getElem?_eq_some_iff.1 hi).1
  have hlens : ∀ r ∈ rows, r.length = Rep.sz α := by
    intro r hr2
    obtain ⟨i, hi⟩ := List.getElem?_of_mem hr2
    have hi2 := (List.getElem?_eq_some_iff.1 hi).1
    exact Rep.len (hrep i l[i] r (List.getElem?_eq_getElem (by omega)) hi)
  obtain ⟨r, hri⟩ := at_lt (l := rows) (k := i) (by omega)
  refine ⟨r, hrep i x r hi hri, fun j u hu => ?_⟩
  have hj : j < Rep.sz α := by
    have := (List.getElem?_eq_some_iff.1 hu).1
    rw [hlens r (List.mem_of_getElem? hri)] at this
    exact this
  have h3 := hown.cells rfl (i * Rep.sz α + j) u (by rw [flatten_at hlens hri hj]; exact hu)
  rw [addr_add, Nat.zero_add] at h3
  exact h3
end
theorem flat_byte {w : World} {S S' : Nat → Prop} {x : UInt8} {vs : List Value} (h : Rep.rep w S x vs) : Rep.rep w S' x vs := h
end Go.Proofs.Sm

namespace Go.Proofs.Sm
open Go.RowKit Go.Maps Go.WideMaps

/-- all blocks but those of X are as they were -/
structure Kp (X : Nat → Prop) (w w' : World) : Prop where
  os : w'.os = w.os
  tape : w'.tape = w.tape
  output : w'.output = w.output
  size : w.heap.size ≤ w'.heap.size
  block : ∀ k, k < w.heap.size → ¬ X k → w'.heap[k]? = w.heap[k]?
section
variable {X : Nat → Prop} {a b c w w' : World}
theorem Kp.refl (X : Nat → Prop) (w : World) : Kp X w w := ⟨rfl, rfl, rfl, Nat.le_refl _, fun _ _ _ => rfl⟩
theorem Kp.trans (h : Kp X a b) (k : Kp X b c) : Kp X a c :=
  ⟨k.os.trans h.os, k.tape.trans h.tape, k.output.trans h.output, Nat.le_trans h.size k.size, fun i hi hx => (k.block i (Nat.lt_of_lt_of_le hi h.size) hx).trans (h.block i hi hx)⟩
theorem Kp.of (h : Below a.heap.size a b) : Kp X a b := ⟨h.os, h.tape, h.output, h.size, fun k hk _ => h.block k hk⟩
theorem Kp.call (h : Kp X a b) (k : Below b.heap.size b c) : Kp X a c := h.trans (.of k)
theorem Kp.alloc (h : Kp X a w) (o : Obj) : Kp X a (w.alloc o) := h.call (fr_alloc (fr_refl w) o)
theorem Kp.drewN (h : Kp X a w) (n : Nat) : Kp X a (w.drewN n) := h.call (below_drewN (fr_refl w) n)
theorem Kp.drew (h : Kp X a w) : Kp X a w.drew := h.call (Below.drew (fr_refl w))
theorem Kp.set (h : Kp X a w) {p : Addr} (hp : X p.block) (u : Value) : Kp X a (w.setCell p u) :=
  h.trans ⟨rfl, rfl, rfl, by simp [World.setCell], fun k _ hx => Below.heap_setCell _ _ _ _ fun e => hx (e ▸ hp)⟩
theorem Kp.setNew (h : Kp X a w) {p : Addr} (hp : a.heap.size ≤ p.block) (u : Value) : Kp X a (w.setCell p u) :=
  ⟨h.os, h.tape, h.output, by simpa [World.setCell] using h.size, fun k hk hx => (Below.heap_setCell _ _ _ _ (by omega)).trans (h.block k hk hx)⟩
theorem Kp.grown {row : Option Nat} (h : Kp X a w) (hg : w.grownBy w' row) (hr : ∀ k, row = some k → X k ∨ a.heap.size ≤ k) : Kp X a w' :=
  ⟨hg.os.trans h.os, hg.tape.trans h.tape, hg.output.trans h.output, Nat.le_trans h.size hg.size, fun i hi hx => (hg.block i (Nat.lt_of_lt_of_le hi h.size) fun e => by
    rcases hr i e.symm with h1 | h1
    · exact hx h1
    · omega).trans (h.block i hi hx)⟩
theorem Kp.below (h : Kp X a b) {B : Nat} (hX : ∀ k, k < B → ¬ X k) (hB : B ≤ a.heap.size) : Below B a b :=
  ⟨h.os, h.tape, h.output, h.size, fun k hk => h.block k (Nat.lt_of_lt_of_le hk hB) (hX k hk)⟩
theorem Kp.more {Y : Nat → Prop} (h : Kp X a b) (hXY : ∀ k, X k → Y k) : Kp Y a b := ⟨h.os, h.tape, h.output, h.size, fun k hk hx => h.block k hk fun h1 => hx (hXY k h1)⟩
/-- blocks that X leaves alone -/
def Off (X : Nat → Prop) (w : World) : Nat → Prop := fun k => ¬ X k ∧ k < w.heap.size
theorem Kp.off (h : Kp X a b) : ∀ k, Off X a k → b.heap[k]? = a.heap[k]? := fun k hk => h.block k hk.2 hk.1
theorem Kp.offs (h : Kp X a b) : ∀ k, Off X a k → Off X b k := fun _ hk => ⟨hk.1, Nat.lt_of_lt_of_le hk.2 h.size⟩
theorem Off.lt : ∀ k, Off X a k → Lt a.heap.size k := fun _ hk => hk.2
theorem Sl.kp {α : Type} [Rep α] {A : Option Addr} {n : Nat} {l : List α} (h : Kp X a b) (hs : Sl a (Off X a) A n l) : Sl b (Off X b) A n l := (hs.keep h.off).more h.offs
theorem Sl.offLt {α : Type} [Rep α] {A : Option Addr} {n : Nat} {l : List α} (hs : Sl a (Off X a) A n l) : Sl a (Lt a.heap.size) A n l := hs.more Off.lt
end

/-- a file as a map holds it -/
def FileVal (w : World) (S : Nat → Prop) (x : FileV) (v : Value) : Prop :=
  x.path.size ≤ maxLen ∧ ∃ A n c, v = .agg #[.string x.path, .bool x.run, .slice A n c] ∧ n ≤ c ∧ c ≤ maxLen ∧ Sl w S A n x.bytes
def lookVal (x : Look) : Value := .agg #[.string x.path, .string x.digest, .bool x.run]
def keyF (l : List FileV) (key : List UInt8) : Option FileV := l.find? fun y => y.path.data.toList == key
def keyL (l : List Look) (key : List UInt8) : Option Look := l.find? fun y => y.path.data.toList == key
theorem keyF_eqp (l : List FileV) (p : ByteArray) : keyF l p.data.toList = l.find? (eqp p) := by
  unfold keyF
  congr 1
  funext y
  rw [eqp, ByteArray.toList_eq, ByteArray.toList_eq]
/-- a map of files by their paths -/
def FilesIn (P : Program) (k : TypeId) (w : World) (S : Nat → Prop) (m n : Nat) (l : List FileV) : Prop :=
  ∃ f, MapIs P k w m n f ∧ ∀ key, match keyF l key with
    | none => f key = none
    | some x => ∃ v, f key = some v ∧ FileVal w S x v
/-- a map of looks by their paths -/
def LooksIn (P : Program) (k : TypeId) (w : World) (m n : Nat) (l : List Look) : Prop := MapIs P k w m n fun key => (keyL l key).map lookVal
end Go.Proofs.Sm

namespace Go.Proofs.Sm
open Go.RowKit

theorem ltS_trans {x y z : ByteArray} (h : ltS x y = true) (h' : ltS y z = true) : ltS x z = true := bl_trans h h'
theorem ltS_irrefl (x : ByteArray) : ltS x x = false := bl_irrefl _
theorem ltS_eq_l {x y z : ByteArray} (h : x.toList = y.toList) : ltS x z = ltS y z := by rw [ltS, ltS, h]
theorem ltS_eq_r {x y z : ByteArray} (h : x.toList = y.toList) : ltS z x = ltS z y := by rw [ltS, ltS, h]
/-- by path, each once -/
def ByPath {α : Type} (key : α → ByteArray) (l : List α) : Prop := l.Pairwise fun x y => ltS (key x) (key y) = true
theorem byPath_put {α : Type} {key : α → ByteArray} {l : List α} (h : ByPath key l) (x : α) :
    ByPath key (l.filter (fun y => ltS (key y) (key x)) ++ [x] ++ l.filter (fun y => ltS (key x) (key y))) := by
  unfold ByPath at h ⊢
  rw [List.append_assoc, List.pairwise_append]
  refine ⟨h.filter _, ?_, fun a ha b hb => ?_⟩
  · rw [List.singleton_append, List.pairwise_cons]
    exact ⟨fun b hb => (List.mem_filter.1 hb).2, h.filter _⟩
  · have h1 := (List.mem_filter.1 ha).2
    rw [List.singleton_append] at hb
    rcases List.mem_cons.1 hb with rfl | hb
    · exact h1
    · exact ltS_trans h1 (List.mem_filter.1 hb).2
theorem byPath_note {l : List Look} (h : ByPath Look.path l) (x : Look) : ByPath Look.path (noteS l x) := by
  unfold noteS
  split
  · exact h
  · exact byPath_put h x
theorem note_mem {l : List Look} {x y : Look} (h : y ∈ noteS l x) : y ∈ l ∨ y = x := by
  unfold noteS at h
  split at h
  · exact .inl h
  · rcases List.mem_append.1 h with h | h
    · rcases List.mem_append.1 h with h | h
      · exact .inl (List.mem_filter.1 h).1
      · exact .inr (by simpa using h)
    · exact .inl (List.mem_filter.1 h).1
/-- what is looked at is as it is in the files -/
structure LooksFrom (F : List FileV) (P : ByteArray → Prop) (s : ExSt) : Prop where
  sorted : ByPath Look.path s.looks
  each : ∀ y ∈ s.looks, y = lookAtS F y.path ∧ P y.path
/-- a step keeps it, if it asks for paths of P alone -/
def Asks (P : ByteArray → Prop) {α : Type} (F : List FileV) (m : Ex α) : Prop := ∀ s, LooksFrom F P s → LooksFrom F P (m F s).2
section
variable {α β : Type} {P : ByteArray → Prop} {F : List FileV}
theorem asks_ret (a : α) : Asks P F (Ex.ret a) := fun _ h => h
theorem Asks.bind {m : Ex α} {f : α → Ex β} (h : Asks P F m) (hf : ∀ a, Asks P F (f a)) : Asks P F (m.bind f) := fun s hs => hf _ _ (h s hs)
theorem asks_own {m : Ex α} (h1 : ∀ s, (m F s).2.looks = s.looks) : Asks P F m := fun s hs => ⟨by rw [h1]; exact hs.sorted, by rw [h1]; exact hs.each⟩
theorem asks_find {p : ByteArray} (hp : P p) : Asks P F (findE p) := fun s hs => by
  unfold findE
  split
  · exact hs
  · refine ⟨byPath_note hs.sorted _, fun y hy => ?_⟩
    rcases note_mem hy with h | rfl
    · exact hs.each y h
    · rw [lookAt_path]; exact ⟨rfl, hp⟩
theorem asks_read {p : ByteArray} (hp : P p) : Asks P F (readE p) := (asks_find hp).bind fun x => by cases x <;> exact asks_ret _
theorem asks_write (outs : List ByteArray) (p : ByteArray) (b : List UInt8) (run : Bool) : Asks P F (writeE outs p b run) :=
  asks_own fun s => by unfold writeE; split <;> (try split) <;> rfl
theorem asks_tell (ws : List ByteArray) : Asks P F (tellE ws) := asks_own fun s => by unfold tellE; split <;> rfl
theorem asks_each {f : ByteArray → List UInt8 → Nat → Ex (List UInt8 × Nat × Int)} (hf : ∀ p o r, isPathS p = true → Asks P F (f p o r)) : ∀ l o r, Asks P F (eachE f l o r)
  | [], o, r => asks_ret _
  | s :: rest, o, r => by
    unfold eachE
    split
    · rename_i p hp
      have hip : isPathS p = true := by
        unfold incS at hp
        split at hp
        · split at hp
          · rename_i h1
            cases hp
            exact h1
          · cases hp
        · cases hp
      refine (hf _ o r hip).bind fun x => ?_
      split
      · exact asks_each hf rest _ _
      · exact asks_ret _
    · split
      · exact asks_ret _
      · exact asks_each hf rest _ _
theorem asks_file (hP : ∀ p, isPathS p = true → P p) : ∀ fuel inn p o r, P p → Asks P F (fileE fuel inn p o r)
  | 0, _, _, _, _, _ => asks_ret _
  | fuel + 1, inn, p, o, r, hp => by
    unfold fileE
    split
    · exact asks_ret _
    · refine (asks_read hp).bind fun x => ?_
      split
      · split
        · exact asks_ret _
        · exact asks_each (fun p o r hip => asks_file hP fuel _ p o r (hP p hip)) _ _ _
      · exact asks_ret _
theorem asks_joined : ∀ l o, (∀ p ∈ l, P p) → Asks P F (joinedE l o)
  | [], _, _ => asks_ret _
  | p :: rest, o, h => by
    unfold joinedE
    refine (asks_read (h p (by simp))).bind fun x => ?_
    split
    · exact asks_joined rest _ fun q hq => h q (by simp [hq])
    · exact asks_ret _
theorem asks_pick : ∀ l, (∀ p ∈ l, P p) → Asks P F (pickE l)
  | [], _ => asks_ret _
  | p :: rest, h => by
    unfold pickE
    refine (asks_find (h p (by simp))).bind fun x => ?_
    cases x
    · exact asks_pick rest fun q hq => h q (by simp [hq])
    · exact asks_ret _
end
/-- a row of which some were left out has the same file at a path that is kept -/
theorem find_filter {l : List FileV} {q : FileV → Bool} {p : ByteArray} (h : ∀ x ∈ l, eqp p x = true → q x = true) : (l.filter q).find? (eqp p) = l.find? (eqp p) := by
  induction l with
  | nil => rfl
  | cons x l ih =>
    have ih := ih fun y hy => h y (by simp [hy])
    by_cases hx : eqp p x = true
    · rw [List.filter_cons, if_pos (h x (by simp) hx), List.find?_cons, List.find?_cons, hx]
    · have hx' : eqp p x = false := by simpa using hx
      rw [List.find?_cons (a := x), hx', List.filter_cons]
      split
      · rw [List.find?_cons, hx']; exact ih
      · exact ih
/-- is a path looked at -/
def lookedS (l : List Look) (p : ByteArray) : Bool := l.any fun y => y.path.toList == p.toList
def reducedS (a : ActionV) (F : List FileV) : List FileV := F.filter fun x => lookedS (execS a F).looks x.path
def unreadS (a : ActionV) (F : List FileV) : List FileV := F.filter fun x => !lookedS (execS a F).looks x.path
theorem reduced_enough {a : ActionV} {F : List FileV} (h : a.commands.any isList = false) : execS a (reducedS a F) = execS a F := by
  refine looks_decide h fun y hy => ?_
  refine (find_filter fun x _ hx => ?_).symm
  refine List.any_eq_true.2 ⟨y, hy, ?_⟩
  have : x.path.toList = y.path.toList := by simpa [eqp] using hx
  simp [this]
theorem filter_counts {α : Type} (q : α → Bool) : ∀ l : List α, (l.filter q).length + (l.filter fun x => !q x).length = l.length
  | [] => rfl
  | x :: l => by
    have ih := filter_counts q l
    rw [List.filter_cons, List.filter_cons]
    cases q x <;> simp <;> omega
theorem reduced_counts (a : ActionV) (F : List FileV) : (reducedS a F).length + (unreadS a F).length = F.length := filter_counts (fun x : FileV => lookedS (execS a F).looks x.path) F
end Go.Proofs.Sm

namespace Go.Proofs.Sm
open Go.RowKit Go.Maps Go.WideMaps

/-- what is put at its place among what stands by a key -/
def putBy {α : Type} (key : α → ByteArray) (l : List α) (x : α) : List α := l.filter (fun y => ltS (key y) (key x)) ++ [x] ++ l.filter (fun y => ltS (key x) (key y))
def findBy {α : Type} (key : α → ByteArray) (l : List α) (k : List UInt8) : Option α := l.find? fun y => (key y).data.toList == k
section
variable {α : Type} {key : α → ByteArray}
theorem find_filter' {l : List α} {p q : α → Bool} (h : ∀ x ∈ l, p x = true → q x = true) : (l.filter q).find? p = l.find? p := by
  induction l with
  | nil => rfl
  | cons y l ih =>
    have ih' := ih fun x hx => h x (List.mem_cons_of_mem _ hx)
    rw [List.filter_cons]
    cases hq : q y
    · have hp : p y = false := by
        cases hp : p y
        · rfl
        · rw [h y (List.mem_cons_self ..) hp] at hq; cases hq
      rw [if_neg (by decide), List.find?_cons, hp, ih']
    · rw [if_pos rfl, List.find?_cons, List.find?_cons, ih']
theorem find_none' {l : List α} {p q : α → Bool} (h : ∀ x ∈ l, q x = true → p x = false) : (l.filter q).find? p = none := by
  rw [List.find?_eq_none]
  intro x hx
  have := List.mem_filter.1 hx
  rw [h x this.1 this.2]
  decide
theorem find_put (l : List α) (x : α) (k : List UInt8) : findBy key (putBy key l x) k = if k = (key x).data.toList then some x else findBy key l k := by
  unfold findBy putBy
  rw [List.find?_append, List.find?_append]
  by_cases hk : k = (key x).data.toList
  · subst hk
    rw [if_pos rfl, find_none' (fun y _ hy => by
      have := ltS_ne hy
      simpa using this)]
    simp
  · rw [if_neg hk]
    have h1 : List.find? (fun y => (key y).data.toList == k) [x] = none := by
      rw [List.find?_eq_none]; intro y hy
      obtain rfl : y = x := by simpa using hy
      simpa using fun h : (key y).data.toList = k => hk h.symm
    rw [h1, Option.or_none]
    rcases Classical.em (k < (key x).data.toList) with h2 | h2
    · have h3 : (l.filter fun y => ltS (key y) (key x)).find? (fun y => (key y).data.toList == k) = l.find? fun y => (key y).data.toList == k := find_filter' fun y _ hy => lt_bytes.2 (by rw [show (key y).data.toList = k by simpa using hy]; exact h2)
      have h4 : (l.filter fun y => ltS (key x) (key y)).find? (fun y => (key y).data.toList == k) = none := find_none' fun y _ hy => by
        have h5 := lt_bytes.1 hy
        cases h6 : (key y).data.toList == k
        · rfl
        · rw [show (key y).data.toList = k by simpa using h6] at h5
          exact absurd (List.lt_trans h5 h2) (List.lt_irrefl _)
      rw [h3, h4, Option.or_none]
    · have h2' : (key x).data.toList < k := by
        rcases List.le_iff_lt_or_eq.1 (List.not_lt.1 h2) with h | h
        · exact h
        · exact absurd h.symm hk
      have h3 : (l.filter fun y => ltS (key x) (key y)).find? (fun y => (key y).data.toList == k) = l.find? fun y => (key y).data.toList == k := find_filter' fun y _ hy => lt_bytes.2 (by rw [show (key y).data.toList = k by simpa using hy]; exact h2')
      have h4 : (l.filter fun y => ltS (key y) (key x)).find? (fun y => (key y).data.toList == k) = none := find_none' fun y _ hy => by
        have h5 := lt_bytes.1 hy
        cases h6 : (key y).data.toList == k
        · rfl
        · rw [show (key y).data.toList = k by simpa using h6] at h5
          exact absurd (List.lt_trans h5 h2') (List.lt_irrefl _)
      rw [h3, h4, Option.none_or]
/-- keys of what stands by a key -/
theorem findBy_some {l : List α} (k : List UInt8) : (findBy key l k).isSome = true ↔ k ∈ (l.map key).map (·.data.toList) := by
  unfold findBy
  rw [List.find?_isSome, List.map_map]
  simp
theorem keys_by {f : List UInt8 → Option Value} {l : List α} {ks : List ByteArray} (h : KeysAre f ks) (hl : ByPath key l) (hf : ∀ k, (f k).isSome = (findBy key l k).isSome) (hs : ∀ x ∈ l, (key x).size ≤ maxLen) : ks = l.map key :=
  h.unique (g := f) ⟨List.pairwise_map.2 (hl.imp fun h => lt_bytes.1 h), fun k => by rw [← findBy_some, hf], fun x hx => by
    obtain ⟨y, hy, rfl⟩ := List.mem_map.1 hx
    exact hs y hy⟩ fun _ => rfl
end
theorem putFile_by (l : List FileV) (x : FileV) : putFileS l x = putBy FileV.path l x := rfl
theorem keyF_by (l : List FileV) (k : List UInt8) : keyF l k = findBy FileV.path l k := rfl
theorem keyL_by (l : List Look) (k : List UInt8) : keyL l k = findBy Look.path l k := rfl
theorem note_by (l : List Look) (x : Look) : noteS l x = if (keyL l x.path.data.toList).isSome then l else putBy Look.path l x := by
  unfold noteS putBy
  have h0 : (keyL l x.path.data.toList).isSome = true ↔ ∃ y ∈ l, (y.path.data.toList == x.path.data.toList) = true := by unfold keyL; rw [List.find?_isSome]
  have : l.any (fun y => y.path.toList == x.path.toList) = true ↔ ∃ y ∈ l, (y.path.data.toList == x.path.data.toList) = true := by
    rw [List.any_eq_true]
    simp [ByteArray.toList_eq]
  split
  · rename_i h; rw [if_pos (h0.2 (this.1 h))]
  · rename_i h; rw [if_neg fun h' => h (this.2 (h0.1 h'))]
section
variable {P : Program} {k : TypeId} {w w' : World} {S S' : Nat → Prop} {m n : Nat} {l : List FileV} {q : List Look}
theorem FileVal.keep {x : FileV} {v : Value} (hk : ∀ k, S k → w'.heap[k]? = w.heap[k]?) (h : FileVal w S x v) : FileVal w' S x v := by
  obtain ⟨h0, A, n, c, rfl, h1, h2, h3⟩ := h
  exact ⟨h0, A, n, c, rfl, h1, h2, h3.keep hk⟩
theorem FileVal.more {x : FileV} {v : Value} (hs : ∀ k, S k → S' k) (h : FileVal w S x v) : FileVal w S' x v := by
  obtain ⟨h0, A, n, c, rfl, h1, h2, h3⟩ := h
  exact ⟨h0, A, n, c, rfl, h1, h2, h3.more hs⟩
theorem FilesIn.keep (h : FilesIn P k w S m n l) (hm : w'.heap[m]? = w.heap[m]?) (hk : ∀ k, S k → w'.heap[k]? = w.heap[k]?) : FilesIn P k w' S m n l := by
  obtain ⟨f, h1, h2⟩ := h
  refine ⟨f, h1.keep hm, fun key => ?_⟩
  have := h2 key
  split at this
  · exact this
  · obtain ⟨v, h3, h4⟩ := this
    exact ⟨v, h3, h4.keep hk⟩
theorem FilesIn.more (h : FilesIn P k w S m n l) (hs : ∀ k, S k → S' k) : FilesIn P k w S' m n l := by
  obtain ⟨f, h1, h2⟩ := h
  refine ⟨f, h1, fun key => ?_⟩
  have := h2 key
  split at this
  · exact this
  · obtain ⟨v, h3, h4⟩ := this
    exact ⟨v, h3, h4.more hs⟩
theorem FilesIn.lt (h : FilesIn P k w S m n l) : m < w.heap.size := by
  obtain ⟨f, h1, _⟩ := h
  exact h1.lt
theorem FilesIn.made (w : World) (S : Nat → Prop) : FilesIn P k (w.alloc (.map #[] 0)) S w.heap.size 0 [] := ⟨_, MapIs.made w, fun key => by simp [keyF]⟩
theorem LooksIn.made (w : World) : LooksIn P k (w.alloc (.map #[] 0)) w.heap.size 0 [] := (MapIs.made (P := P) (k := k) w).congr fun key => by simp [keyL]
/-- a path is looked up among files -/
theorem FilesIn.look_ok {t e : TypeId} (h : FilesIn P k w S m n l) (hk : P.underlying k = some .string) (ht : P.underlying t = some (.map k e)) {z : Value} (hz : (zeroValue e).run P w = .ok z w)
    {p : ByteArray} (hp : p.size ≤ maxLen) : match l.find? (eqp p) with
      | none => (Instr.lookup t (.map (some m)) (.string p) true).run P w = .ok (.tuple #[z, .bool false]) w
      | some x => ∃ v, FileVal w S x v ∧ (Instr.lookup t (.map (some m)) (.string p) true).run P w = .ok (.tuple #[v, .bool true]) w := by
  obtain ⟨f, h1, h2⟩ := h
  have h3 := h1.look_ok hk ht hz hp
  have h4 := h2 p.data.toList
  rw [keyF_eqp] at h4
  cases hf : l.find? (eqp p) with
  | none => rw [hf] at h4; simp only at h4 ⊢; rw [h3, h4]; rfl
  | some x =>
    rw [hf] at h4
    obtain ⟨v, h5, h6⟩ := h4
    exact ⟨v, h6, by rw [h3, h5]; rfl⟩
theorem FilesIn.look {t e : TypeId} (h : FilesIn P k w S m n l) (hk : P.underlying k = some .string) (ht : P.underlying t = some (.map k e)) {z : Value} (hz : (zeroValue e).run P w = .ok z w)
    {p : ByteArray} (hp : p.size ≤ maxLen) : match l.find? (eqp p) with
      | none => (Instr.lookup t (.map (some m)) (.string p) false).run P w = .ok z w
      | some x => ∃ v, FileVal w S x v ∧ (Instr.lookup t (.map (some m)) (.string p) false).run P w = .ok v w := by
  obtain ⟨f, h1, h2⟩ := h
  have h3 := h1.look hk ht hz hp
  have h4 := h2 p.data.toList
  rw [keyF_eqp] at h4
  cases hf : l.find? (eqp p) with
  | none => rw [hf] at h4; simp only at h4 ⊢; rw [h3, h4]; rfl
  | some x =>
    rw [hf] at h4
    obtain ⟨v, h5, h6⟩ := h4
    exact ⟨v, h6, by rw [h3, h5]; rfl⟩
/-- a map behind a store reads as the files with one more -/
theorem FilesIn.put {f : List UInt8 → Option Value} (hf : ∀ key, match keyF l key with
      | none => f key = none
      | some x => ∃ v, f key = some v ∧ FileVal w S x v) {x : FileV} {v : Value} (hv : FileVal w S x v)
    (hm : MapIs P k w' m n (fun key => if key = x.path.data.toList then some v else f key)) (hk : ∀ k, S k → w'.heap[k]? = w.heap[k]?) : FilesIn P k w' S m n (putFileS l x) := by
  refine ⟨_, hm, fun key => ?_⟩
  rw [putFile_by, keyF_by, find_put, ← keyF_by]
  by_cases he : key = x.path.data.toList
  · simp only [if_pos he]
    exact ⟨v, rfl, hv.keep hk⟩
  · simp only [if_neg he]
    have h3 := hf key
    cases hq : keyF l key with
    | none => rw [hq] at h3; exact h3
    | some y =>
      rw [hq] at h3
      obtain ⟨u, h3, h4⟩ := h3
      exact ⟨u, h3, h4.keep hk⟩
theorem LooksIn.put {x : Look} (hn : keyL q x.path.data.toList = none) (hm : MapIs P k w' m n (fun key => if key = x.path.data.toList then some (lookVal x) else (keyL q key).map lookVal)) : LooksIn P k w' m n (noteS q x) := by
  refine MapIs.congr hm fun key => ?_
  rw [note_by, hn]
  simp only [Option.isSome_none, Bool.false_eq_true, if_false]
  rw [keyL_by (putBy Look.path q x), find_put, ← keyL_by]
  by_cases he : key = x.path.data.toList
  · simp only [if_pos he]; rfl
  · simp only [if_neg he]
theorem LooksIn.has {t e : TypeId} (h : LooksIn P k w m n q) (hk : P.underlying k = some .string) (ht : P.underlying t = some (.map k e)) {z : Value} (hz : (zeroValue e).run P w = .ok z w)
    {p : ByteArray} (hp : p.size ≤ maxLen) : ∃ v, (Instr.lookup t (.map (some m)) (.string p) true).run P w = .ok (.tuple #[v, .bool (keyL q p.data.toList).isSome]) w := by
  have h3 := MapIs.look_ok (P := P) (k := k) h hk ht hz hp
  rw [h3]
  cases keyL q p.data.toList <;> exact ⟨_, rfl⟩
end
theorem note_same {l : List Look} {x : Look} (h : (keyL l x.path.data.toList).isSome = true) : noteS l x = l := by rw [note_by, if_pos h]
/-- how many keys a map has -/
theorem nodup_len {A B : List (List UInt8)} (hA : A.Nodup) (hB : B.Nodup) (h : ∀ x, x ∈ A ↔ x ∈ B) : A.length = B.length :=
  ((List.perm_ext_iff_of_nodup hA hB).2 h).length_eq
theorem byPath_nodup {α : Type} {key : α → ByteArray} {l : List α} (h : ByPath key l) : ((l.map key).map (·.data.toList)).Nodup := by
  rw [List.map_map]
  exact List.pairwise_map.2 (h.imp fun h e => ltS_ne h e)
theorem MapIs.len {P : Program} {k t e : TypeId} {w : World} {b n : Nat} {f : List UInt8 → Option Value} (h : MapIs P k w b n f) (hk : P.underlying k = some .string) (ht : P.underlying t = some (.map k e)) {ks : List (List UInt8)} (hn : ks.Nodup) (hm : ∀ key, key ∈ ks ↔ (f key).isSome = true) (ty : TypeId) :
    (Builtin.len_ #[t] ty #[.map (some b)]).run P w = .ok (.int .i64 ks.length) w := by
  obtain ⟨D, h1, _, h3, h4, _⟩ := h.keys hk
  rw [h1.len ht ty]
  obtain ⟨es, hD, _⟩ := h1.entries (string_keyed hk)
  have h5 : Maps.size D = (strKeys D).length := by rw [hD, size_eq]; simp [strKeys]
  rw [h5, nodup_len h3 hn fun x => (h4 x).trans (hm x).symm]
theorem MapIs.tight {P : Program} {k : TypeId} {w : World} {b n : Nat} {f : List UInt8 → Option Value} (h : MapIs P k w b n f) (hk : P.underlying k = some .string) {ks : List (List UInt8)} (hn : ks.Nodup) (hm : ∀ key, key ∈ ks ↔ (f key).isSome = true) : MapIs P k w b ks.length f := by
  obtain ⟨D0, h1, _, h3, h4, _⟩ := h.keys hk
  obtain ⟨D, h5, h6, h7⟩ := h
  have hD : Maps.size D = ks.length := by
    obtain ⟨es, hD, hpw, _⟩ := h5.entries (string_keyed hk)
    have h8 : D0 = D := by
      obtain ⟨es1, c1, hb1, _, _, e1⟩ := h1
      obtain ⟨es2, c2, hb2, _, _, e2⟩ := h5
      rw [hb1] at hb2
      cases hb2
      rw [e1, e2]
    subst h8
    have h9 : Maps.size D0 = (strKeys D0).length := by rw [hD, size_eq]; simp [strKeys]
    rw [h9, nodup_len h3 hn fun x => (h4 x).trans (hm x).symm]
  obtain ⟨es, clock, hb, hF, hs, rfl⟩ := h5
  refine ⟨_, ⟨es, clock, hb, hF, ?_, rfl⟩, h6, h7⟩
  rw [size_eq] at hD
  have key : ∀ l : List (Lit × DataW Value), (l.foldr DataW.insert []).length = l.length := by
    intro l
    induction l with
    | nil => rfl
    | cons x l ih => rw [List.foldr_cons, insert_length, ih]; rfl
  rw [key, List.length_map, Array.length_toList] at hD
  omega
theorem FilesIn.tight {P : Program} {k : TypeId} {w : World} {S : Nat → Prop} {b n : Nat} {l : List FileV} (h : FilesIn P k w S b n l) (hk : P.underlying k = some .string) (hl : ByPath FileV.path l) : FilesIn P k w S b l.length l := by
  obtain ⟨f, h1, h2⟩ := h
  have := h1.tight hk (byPath_nodup hl) (fun key => by
    rw [← findBy_some, ← keyF_by]
    have h3 := h2 key
    cases hq : keyF l key with
    | none => rw [hq] at h3; simp only at h3; rw [h3]; simp
    | some x =>
      rw [hq] at h3
      obtain ⟨v, h3, _⟩ := h3
      rw [h3]; simp)
  exact ⟨f, by simpa using this, h2⟩
theorem LooksIn.tight {P : Program} {k : TypeId} {w : World} {b n : Nat} {l : List Look} (h : LooksIn P k w b n l) (hk : P.underlying k = some .string) (hl : ByPath Look.path l) : LooksIn P k w b l.length l := by
  have := MapIs.tight (P := P) (k := k) h hk (byPath_nodup hl) (fun key => by
    rw [← findBy_some, ← keyL_by]
    cases keyL l key <;> simp)
  have e : ((l.map Look.path).map (·.data.toList)).length = l.length := by simp
  rw [e] at this
  exact this
theorem FilesIn.len {P : Program} {k t e : TypeId} {w : World} {S : Nat → Prop} {b n : Nat} {l : List FileV} (h : FilesIn P k w S b n l) (hk : P.underlying k = some .string) (ht : P.underlying t = some (.map k e)) (hl : ByPath FileV.path l) (ty : TypeId) :
    (Builtin.len_ #[t] ty #[.map (some b)]).run P w = .ok (.int .i64 l.length) w := by
  obtain ⟨f, h1, h2⟩ := h
  have := h1.len hk ht (byPath_nodup hl) (fun key => by
    rw [← findBy_some, ← keyF_by]
    have h3 := h2 key
    cases hq : keyF l key with
    | none => rw [hq] at h3; simp only at h3; rw [h3]; simp
    | some x =>
      rw [hq] at h3
      obtain ⟨v, h3, _⟩ := h3
      rw [h3]; simp) ty
  simpa using this
end Go.Proofs.Sm

namespace Go.Proofs.Sm
open Go.RowKit

/-- looks at what is not there -/
def missS (F : List FileV) (l : List Look) : Nat := (l.filter fun y => (F.find? (eqp y.path)).isNone).length
/-- of looks at what is not there no more come to be than the answer says, c of them ahead -/
def MissUp {α : Type} (F : List FileV) (c : Nat) (f : α → Nat) (m : Ex α) : Prop := ∀ s, missS F (m F s).2.looks + c ≤ missS F s.looks + f (m F s).1
theorem two_filters (F : List FileV) (x : Look) : ∀ l : List Look, ((l.filter fun y => ltS y.path x.path).filter fun y => (F.find? (eqp y.path)).isNone).length + ((l.filter fun y => ltS x.path y.path).filter fun y => (F.find? (eqp y.path)).isNone).length ≤ (l.filter fun y => (F.find? (eqp y.path)).isNone).length
  | [] => by simp
  | y :: l => by
    have ih := two_filters F x l
    have hx : ¬ (ltS y.path x.path = true ∧ ltS x.path y.path = true) := fun h => by
      have := ltS_trans h.1 h.2
      rw [ltS_irrefl] at this; cases this
    rw [List.filter_cons, List.filter_cons (x := y) (xs := l) (p := fun y => ltS x.path y.path), List.filter_cons (x := y) (xs := l) (p := fun y => (F.find? (eqp y.path)).isNone)]
    cases h1 : ltS y.path x.path <;> cases h2 : ltS x.path y.path
    · simp only [if_false, Bool.false_eq_true]
      split <;> (try rw [List.length_cons]) <;> omega
    · simp only [if_false, Bool.false_eq_true, if_true]
      rw [List.filter_cons]
      split <;> (try rw [List.length_cons, List.length_cons]) <;> omega
    · simp only [if_false, Bool.false_eq_true, if_true]
      rw [List.filter_cons]
      split <;> (try rw [List.length_cons, List.length_cons]) <;> omega
    · exact absurd ⟨h1, h2⟩ hx
section
variable {α β : Type} {F : List FileV}
theorem miss_note (l : List Look) (x : Look) : missS F (noteS l x) ≤ missS F l + (if (F.find? (eqp x.path)).isNone then 1 else 0) := by
  unfold noteS
  split
  · omega
  · unfold missS
    rw [List.filter_append, List.filter_append, List.length_append, List.length_append]
    have h1 := two_filters F x l
    have h2 : ([x].filter fun y => (F.find? (eqp y.path)).isNone).length = if (F.find? (eqp x.path)).isNone then 1 else 0 := by
      cases h : (F.find? (eqp x.path)).isNone <;> simp [h]
    omega
theorem miss_ret {a : α} {c : Nat} {f : α → Nat} (h : c ≤ f a) : MissUp F c f (Ex.ret a) := fun _ => Nat.add_le_add_left h _
theorem MissUp.bind {m : Ex α} {g : α → Ex β} {c : Nat} {f : α → Nat} {k : β → Nat} (hm : MissUp F c f m) (hg : ∀ a, MissUp F (f a) k (g a)) : MissUp F c k (m.bind g) := fun s => by
  have h1 := hm s
  have h2 := hg (m F s).1 (m F s).2
  unfold Ex.bind
  omega
theorem miss_own {m : Ex α} {c : Nat} {f : α → Nat} (h1 : ∀ s, (m F s).2.looks = s.looks) (h2 : ∀ a, c ≤ f a) : MissUp F c f m := fun s => by rw [h1]; exact Nat.add_le_add_left (h2 _) _
theorem MissUp.le {m : Ex α} {c : Nat} {f g : α → Nat} (h : MissUp F c f m) (hg : ∀ a, f a ≤ g a) : MissUp F c g m := fun s => Nat.le_trans (h s) (Nat.add_le_add_left (hg _) _)
theorem MissUp.up {m : Ex α} {c d : Nat} {f : α → Nat} (h : MissUp F c f m) : MissUp F (c + d) (fun a => f a + d) m := fun s => by
  have := h s
  show _ + (c + d) ≤ _ + (f (m F s).1 + d)
  omega
def noneN {γ : Type} : Option γ → Nat
  | none => 1
  | some _ => 0
def codeN (c : Int) : Nat := if c = 0 then 0 else 1
theorem codeN_ne {c : Int} (h : c ≠ 0) : codeN c = 1 := by rw [codeN, if_neg h]
theorem codeN_le (c : Int) : codeN c ≤ 1 := by unfold codeN; split <;> omega
theorem miss_find (p : ByteArray) (c : Nat) : MissUp F c (fun x => c + noneN x) (findE p) := fun s => by
  unfold findE
  split
  · show missS F s.looks + c ≤ missS F s.looks + (c + 0)
    omega
  · have := miss_note (F := F) s.looks (lookAtS F p)
    rw [lookAt_path] at this
    show missS F (noteS s.looks (lookAtS F p)) + c ≤ missS F s.looks + (c + noneN (F.find? (eqp p)))
    cases h : F.find? (eqp p) <;> simp [h, noneN] at this ⊢ <;> omega
theorem miss_read (p : ByteArray) (c : Nat) : MissUp F c (fun x => c + codeN x.2) (readE p) := (miss_find p c).bind fun x => by
  cases x
  · exact miss_ret (by simp [codeN, noneN])
  · exact miss_ret (by simp [codeN, noneN])
theorem miss_write (outs : List ByteArray) (p : ByteArray) (b : List UInt8) (run : Bool) (c : Nat) : MissUp F c (fun _ => c) (writeE outs p b run) :=
  miss_own (fun s => by unfold writeE; split <;> (try split) <;> rfl) fun _ => Nat.le_refl _
theorem miss_tell (ws : List ByteArray) (c : Nat) : MissUp F c (fun _ => c) (tellE ws) := miss_own (fun s => by unfold tellE; split <;> rfl) fun _ => Nat.le_refl _
theorem miss_each {f : ByteArray → List UInt8 → Nat → Ex (List UInt8 × Nat × Int)} {c : Nat} (hf : ∀ p o r, MissUp F c (fun x => c + codeN x.2.2) (f p o r)) : ∀ l o r, MissUp F c (fun x => c + codeN x.2.2) (eachE f l o r)
  | [], o, r => miss_ret (Nat.le_add_right _ _)
  | s :: rest, o, r => by
    unfold eachE
    split
    · refine (hf _ o r).bind fun x => ?_
      split
      · rename_i h0
        rw [h0]
        exact miss_each hf rest _ _
      · exact miss_ret (Nat.le_refl _)
    · split
      · exact miss_ret (Nat.le_add_right _ _)
      · exact miss_each hf rest _ _
theorem miss_file : ∀ fuel inn p o r c, MissUp F c (fun x => c + codeN x.2.2) (fileE fuel inn p o r)
  | 0, _, _, _, _, _ => miss_ret (Nat.le_add_right _ _)
  | fuel + 1, inn, p, o, r, c => by
    unfold fileE
    split
    · exact miss_ret (Nat.le_add_right _ _)
    · refine (miss_read p c).bind fun x => ?_
      split
      · rename_i h0
        rw [h0]
        split
        · exact miss_ret (by simp [codeN])
        · exact miss_each (fun p o r => miss_file fuel _ p o r c) _ _ _
      · exact miss_ret (Nat.le_refl _)
theorem miss_joined : ∀ l o c, MissUp F c (fun x => c + codeN x.2) (joinedE l o)
  | [], _, _ => miss_ret (Nat.le_add_right _ _)
  | p :: rest, o, c => by
    unfold joinedE
    refine (miss_read p c).bind fun x => ?_
    split
    · rename_i h0
      rw [h0]
      exact miss_joined rest _ c
    · exact miss_ret (Nat.le_refl _)
theorem miss_pick : ∀ (l : List ByteArray) (c : Nat), MissUp F c (fun _ => c + l.length) (pickE l)
  | [], _ => miss_ret (Nat.le_refl _)
  | p :: rest, c => by
    unfold pickE
    refine (miss_find p c).bind fun x => ?_
    cases x
    · exact (miss_pick rest (c + 1)).le fun _ => by rw [List.length_cons]; omega
    · exact miss_ret (by simp [noneN])
end
end Go.Proofs.Sm

namespace Go.Proofs.Sm
open Go.RowKit

theorem put_mem {l : List ByteArray} {x y : ByteArray} (h : y ∈ putStrS l x) : y ∈ l ∨ y = x := by
  unfold putStrS at h
  rcases List.mem_append.1 h with h | h
  · rcases List.mem_append.1 h with h | h
    · exact .inl (List.mem_filter.1 h).1
    · exact .inr (by simpa using h)
  · exact .inl (List.mem_filter.1 h).1
theorem puts_mem {y : ByteArray} : ∀ {l acc : List ByteArray}, y ∈ l.foldl putStrS acc → y ∈ acc ∨ y ∈ l
  | [], _, h => .inl h
  | x :: l, acc, h => by
    rcases puts_mem (l := l) h with h | h
    · rcases put_mem h with h | h
      · exact .inl h
      · exact .inr (by simp [h])
    · exact .inr (by simp [h])
theorem find_of_mem {l : List FileV} {x : FileV} (h : x ∈ l) : (l.find? (eqp x.path)).isSome = true := by
  rw [List.find?_isSome]
  exact ⟨x, h, by simp [eqp]⟩
/-- what there is -/
def ThereS (F : List FileV) (s : ExSt) (p : ByteArray) : Prop := (F.find? (eqp p)).isSome = true ∨ (s.written.find? (eqp p)).isSome = true
theorem paths_there {F : List FileV} {s : ExSt} {p : ByteArray} (h : p ∈ pathsS F s) : ThereS F s p := by
  rcases puts_mem h with h | h
  · cases h
  · rcases List.mem_append.1 h with h | h
    · obtain ⟨x, hx, rfl⟩ := List.mem_map.1 h
      exact .inl (find_of_mem hx)
    · obtain ⟨x, hx, rfl⟩ := List.mem_map.1 h
      exact .inr (find_of_mem hx)
theorem find_written (F : List FileV) (p : ByteArray) (s : ExSt) : (findE p F s).2.written = s.written := by
  unfold findE
  split <;> rfl
section
variable {F : List FileV}
theorem miss_lists (q : ByteArray) : ∀ (l : List ByteArray) (o : List UInt8) (s : ExSt), (∀ p ∈ l, ThereS F s p) → missS F (listsE q l o F s).2.looks ≤ missS F s.looks
  | [], _, _, _ => Nat.le_refl _
  | p :: rest, o, s, h => by
    unfold listsE
    split
    · have h1 := miss_find (F := F) p 0 s
      have h0 : noneN (findE p F s).1 = 0 := by
        unfold findE
        split
        · rfl
        · rename_i hw
          rcases h p (by simp) with h2 | h2
          · obtain ⟨x, hx⟩ := Option.isSome_iff_exists.1 h2
            show noneN (F.find? (eqp p)) = 0
            rw [hx]; rfl
          · rw [hw] at h2; cases h2
      have h3 := miss_lists q rest (o ++ p.data.toList ++ [10]) (findE p F s).2 fun p' hp' => by
        rcases h p' (by simp [hp']) with h2 | h2
        · exact .inl h2
        · exact .inr (by rw [find_written]; exact h2)
      have h4 : missS F (findE p F s).2.looks + 0 ≤ missS F s.looks + (0 + noneN (findE p F s).1) := h1
      show missS F (listsE q rest (o ++ p.data.toList ++ [10]) F (findE p F s).2).2.looks ≤ missS F s.looks
      omega
    · exact miss_lists q rest o s fun p' hp' => h p' (by simp [hp'])
theorem miss_list (q : ByteArray) (c : Nat) : MissUp F c (fun _ => c + 1) (listE q) := fun s => by
  have h1 : missS F (findE q F s).2.looks + c ≤ missS F s.looks + (c + noneN (findE q F s).1) := miss_find (F := F) q c s
  have h2 := miss_lists (F := F) q (pathsS F (findE q F s).2) [] (findE q F s).2 fun p hp => paths_there hp
  have h3 : noneN (findE q F s).1 ≤ 1 := by cases (findE q F s).1 <;> simp [noneN]
  show missS F (listsE q (pathsS F (findE q F s).2) [] F (findE q F s).2).2.looks + c ≤ missS F s.looks + (c + 1)
  omega
theorem miss_made (vars : List VarV) (w : List ByteArray) (hw : w.length ≤ 50) (c : Nat) : MissUp F c (fun _ => c + 50) (madeE vars w) := by
  unfold madeE
  dsimp only
  split
  · exact (miss_joined _ _ c).le fun x => by have := codeN_le x.2; omega
  split
  · exact (miss_file _ _ _ _ _ c).bind fun x => miss_ret (by have := codeN_le x.2.2; omega)
  split
  · exact (miss_pick _ c).le fun _ => by rw [List.length_drop]; omega
  split
  · exact (miss_list _ c).bind fun _ => miss_ret (by omega)
  split
  · exact miss_ret (by omega)
  · refine (miss_read _ c).bind fun x => ?_
    have := codeN_le x.2
    split <;> exact miss_ret (by omega)
theorem miss_do (a : ActionV) (w : List ByteArray) (hw : w.length ≤ 50) (c : Nat) : MissUp F c (fun _ => c + 50) (doE a w) := by
  unfold doE
  dsimp only
  split
  · exact (miss_tell _ c).le fun _ => by omega
  split
  · exact (miss_read _ c).bind fun x => miss_ret (by have := codeN_le x.2; omega)
  split
  · unfold sameE
    refine (miss_read _ c).bind fun x => ?_
    split
    · rename_i h0
      rw [h0]
      refine (miss_read _ (c + codeN 0)).bind fun y => ?_
      have h1 := codeN_le y.2
      have h2 : codeN 0 = 0 := rfl
      split
      · split <;> exact miss_ret (by omega)
      · exact miss_ret (by omega)
    · have h1 := codeN_le x.2
      exact miss_ret (by omega)
  split
  · exact miss_ret (by omega)
  · refine (miss_made a.vars w hw c).bind fun x => ?_
    split
    · exact miss_write _ _ _ _ _
    · exact miss_ret (Nat.le_refl _)
theorem miss_run (a : ActionV) : ∀ (l : List (List ByteArray)) (i c : Nat), (∀ w ∈ l, w.length ≤ 50) → MissUp F c (fun _ => c + 50 * l.length) (runE a l i)
  | [], _, c, _ => miss_own (fun _ => rfl) fun _ => Nat.le_add_right _ _
  | w :: rest, i, c, h => by
    unfold runE
    refine (miss_do a w (h w (by simp)) c).bind fun x => ?_
    split
    · exact (miss_run a rest (i + 1) (c + 50) fun w' hw' => h w' (by simp [hw'])).le fun _ => by rw [List.length_cons]; omega
    · exact miss_ret (by rw [List.length_cons]; omega)
/-- paths that differ and all stand in another row are no more than it has -/
theorem many_paths : ∀ (A B : List ByteArray), A.Pairwise (fun x y => ¬ x.toList = y.toList) → (∀ x ∈ A, ∃ y ∈ B, y.toList = x.toList) → A.length ≤ B.length
  | [], _, _, _ => Nat.zero_le _
  | a :: A, B, hA, hB => by
    rw [List.pairwise_cons] at hA
    obtain ⟨b, hb, he⟩ := hB a (by simp)
    obtain ⟨B1, B2, rfl⟩ := List.append_of_mem hb
    have h1 := many_paths A (B1 ++ B2) hA.2 fun x hx => by
      obtain ⟨y, hy, hyx⟩ := hB x (by simp [hx])
      have hne : ¬ y = b := fun e => hA.1 x hx (by rw [← he, ← e, hyx])
      rcases List.mem_append.1 hy with h | h
      · exact ⟨y, List.mem_append.2 (.inl h), hyx⟩
      · rcases List.mem_cons.1 h with h | h
        · exact absurd h hne
        · exact ⟨y, List.mem_append.2 (.inr h), hyx⟩
    simp only [List.length_append, List.length_cons] at h1 ⊢
    omega
theorem looks_count {P : ByteArray → Prop} {s : ExSt} (h : LooksFrom F P s) : s.looks.length ≤ F.length + missS F s.looks := by
  have h1 := filter_counts (fun y : Look => (F.find? (eqp y.path)).isNone) s.looks
  have h2 : (s.looks.filter fun y => !(F.find? (eqp y.path)).isNone).length ≤ F.length := by
    have h3 := many_paths ((s.looks.filter fun y => !(F.find? (eqp y.path)).isNone).map Look.path) (F.map FileV.path) (by
      rw [List.pairwise_map]
      refine (h.sorted.filter _).imp fun {x y} hxy he => ?_
      rw [ltS_eq_l he, ltS_irrefl] at hxy
      cases hxy) fun p hp => by
        obtain ⟨y, hy, rfl⟩ := List.mem_map.1 hp
        have h4 := (List.mem_filter.1 hy).2
        cases hf : F.find? (eqp y.path) with
        | none => rw [hf] at h4; cases h4
        | some x =>
          exact ⟨x.path, List.mem_map.2 ⟨x, List.mem_of_find?_eq_some hf, rfl⟩, by have := List.find?_some hf; simpa [eqp] using this⟩
    simpa using h3
  unfold missS
  omega
end
end Go.Proofs.Sm

namespace Go.Proofs.Sm
open Go.RowKit

/-! ### What is asked for is a path -/
theorem word_fits {kinds : List UInt8} : ∀ {words : List ByteArray} {i0 : Nat}, wordsFit kinds i0 words = true → ∀ (j : Nat) (x : ByteArray), words[j]? = some x → fitsS (kinds.getD (min (i0 + j) (kinds.length - 1)) 0) x = true
  | [], _, _, j, x, h => by simp at h
  | w :: r, i0, h, j, x, hx => by
    rw [wordsFit, Bool.and_eq_true] at h
    cases j with
    | zero =>
      cases hx
      exact h.1
    | succ j =>
      have := word_fits h.2 j x hx
      rwa [show i0 + 1 + j = i0 + (j + 1) by omega] at this
/-- the form of a right command -/
theorem command_form {c : List ByteArray} (h : checkCommandS c = 0) : c.length ≤ 50 ∧ ∃ kinds more, formS (wordAt c 0).data.toList = some (kinds, more) ∧ kinds.length + 1 ≤ c.length ∧ (c.length ≤ kinds.length + 1 ∨ more = true) ∧
    ∀ (j : Nat) (x : ByteArray), c[j + 1]? = some x → fitsS (kinds.getD (min j (kinds.length - 1)) 0) x = true := by
  unfold checkCommandS at h
  split at h
  · cases h
  rename_i hl
  refine ⟨by omega, ?_⟩
  split at h
  · cases h
  rename_i c0 words
  split at h
  · cases h
  split at h
  · cases h
  rename_i kinds more hf
  split at h
  · cases h
  rename_i hh
  have hh : hasFormS words kinds more = true := by simpa using hh
  unfold hasFormS at hh
  simp only [Bool.and_eq_true, decide_eq_true_eq, Bool.or_eq_true] at hh
  refine ⟨kinds, more, hf, by rw [List.length_cons]; have := hh.1.1; omega, by rw [List.length_cons]; exact hh.1.2.imp (fun h => by omega) id, fun j x hx => ?_⟩
  have := word_fits hh.2 j x (by simpa using hx)
  rwa [Nat.zero_add] at this
theorem wordAt_mem {c : List ByteArray} {i : Nat} (h : i < c.length) : c[i]? = some (wordAt c i) := by
  rw [wordAt, List.getElem?_eq_getElem h]; rfl
theorem fits_path {x : ByteArray} (h : fitsS 112 x = true) : isPathS x = true := by
  unfold fitsS at h
  simpa using h
section
variable {α β : Type} {P : ByteArray → Prop} {F : List FileV}
theorem asks_lists (hF : ∀ x ∈ F, P x.path) (q : ByteArray) : ∀ (l : List ByteArray) (o : List UInt8) (s : ExSt), (∀ p ∈ l, (∃ x ∈ F, x.path = p) ∨ (s.written.find? (eqp p)).isSome = true) → LooksFrom F P s → LooksFrom F P (listsE q l o F s).2
  | [], _, _, _, h => h
  | p :: rest, o, s, hl, h => by
    unfold listsE
    split
    · have h1 : LooksFrom F P (findE p F s).2 := by
        rcases hl p (by simp) with ⟨x, hx, rfl⟩ | h2
        · exact asks_find (hF x hx) s h
        · obtain ⟨y, hy⟩ := Option.isSome_iff_exists.1 h2
          unfold findE
          rw [hy]
          exact h
      refine asks_lists hF q rest (o ++ p.data.toList ++ [10]) (findE p F s).2 (fun p' hp' => ?_) h1
      rcases hl p' (by simp [hp']) with h2 | h2
      · exact .inl h2
      · exact .inr (by rw [find_written]; exact h2)
    · exact asks_lists hF q rest o s (fun p' hp' => hl p' (by simp [hp'])) h
theorem paths_from {s : ExSt} {p : ByteArray} (h : p ∈ pathsS F s) : (∃ x ∈ F, x.path = p) ∨ (s.written.find? (eqp p)).isSome = true := by
  rcases puts_mem h with h | h
  · cases h
  · rcases List.mem_append.1 h with h | h
    · obtain ⟨x, hx, rfl⟩ := List.mem_map.1 h
      exact .inl ⟨x, hx, rfl⟩
    · obtain ⟨x, hx, rfl⟩ := List.mem_map.1 h
      exact .inr (find_of_mem hx)
theorem asks_list (hF : ∀ x ∈ F, P x.path) {q : ByteArray} (hq : P q) : Asks P F (listE q) := fun s hs =>
  asks_lists hF q _ [] _ (fun _ hp => paths_from hp) (asks_find hq s hs)
end
def IsP (p : ByteArray) : Prop := isPathS p = true
/-- the paths of a right command are paths -/
structure CmdPaths (c : List ByteArray) : Prop where
  join : (wordAt c 0).data.toList = [106, 111, 105, 110] → ∀ p ∈ c.drop 2, IsP p
  expand : (wordAt c 0).data.toList = [101, 120, 112, 97, 110, 100] → IsP (wordAt c 2)
  pick : (wordAt c 0).data.toList = [112, 105, 99, 107] → ∀ p ∈ c.drop 2, IsP p
  list : (wordAt c 0).data.toList = [108, 105, 115, 116] → IsP (wordAt c 2)
  need : (wordAt c 0).data.toList = [110, 101, 101, 100] → IsP (wordAt c 1)
  same : (wordAt c 0).data.toList = [115, 97, 109, 101] → IsP (wordAt c 1) ∧ IsP (wordAt c 2)
  last : ¬ (wordAt c 0).data.toList = [116, 101, 108, 108] → ¬ (wordAt c 0).data.toList = [102, 97, 105, 108] → ¬ (wordAt c 0).data.toList = [118, 97, 114] → IsP (wordAt c (c.length - 1))
  many : c.length ≤ 50
theorem cmd_paths {c : List ByteArray} (h : checkCommandS c = 0) : CmdPaths c := by
  obtain ⟨hl, kinds, more, hf, h1, h2, h3⟩ := command_form h
  have hw : ∀ (j : Nat) (k : UInt8), j + 1 < c.length → kinds.getD (min j (kinds.length - 1)) 0 = k → fitsS k (wordAt c (j + 1)) = true := fun j k hj hk => by
    rw [← hk]; exact h3 j _ (wordAt_mem hj)
  have hmem : ∀ {p : ByteArray}, p ∈ c.drop 2 → ∃ j, j + 1 < c.length ∧ 1 ≤ j ∧ c[j + 1]? = some p := fun {p} hp => by
    obtain ⟨i, hi⟩ := List.getElem?_of_mem hp
    rw [List.getElem?_drop] at hi
    exact ⟨i + 1, by have := (List.getElem?_eq_some_iff.1 hi).1; omega, by omega, by rw [← hi]; congr 1; omega⟩
  refine ⟨fun e => ?_, fun e => ?_, fun e => ?_, fun e => ?_, fun e => ?_, fun e => ?_, fun e1 e2 e3 => ?_, hl⟩
  · rw [e] at hf
    cases hf
    intro p hp
    obtain ⟨j, hj, hj1, hx⟩ := hmem hp
    have := h3 j p hx
    rw [show min j (([112, 112] : List UInt8).length - 1) = 1 by simp; omega] at this
    exact fits_path this
  · rw [e] at hf
    cases hf
    exact fits_path (hw 1 112 (by simp at h1; omega) rfl)
  · rw [e] at hf
    cases hf
    intro p hp
    obtain ⟨j, hj, hj1, hx⟩ := hmem hp
    have := h3 j p hx
    have hk : ([112, 112, 112] : List UInt8).getD (min j (([112, 112, 112] : List UInt8).length - 1)) 0 = 112 := by
      rcases Nat.lt_or_ge j 2 with h | h
      · rw [show min j (([112, 112, 112] : List UInt8).length - 1) = 1 by simp; omega]; rfl
      · rw [show min j (([112, 112, 112] : List UInt8).length - 1) = 2 by simp; omega]; rfl
    rw [hk] at this
    exact fits_path this
  · rw [e] at hf
    cases hf
    exact fits_path (hw 1 112 (by simp at h1; omega) rfl)
  · rw [e] at hf
    cases hf
    exact fits_path (hw 0 112 (by simp at h1; omega) rfl)
  · rw [e] at hf
    cases hf
    exact ⟨fits_path (hw 0 112 (by simp at h1; omega) rfl), fits_path (hw 1 112 (by simp at h1; omega) rfl)⟩
  · have hk0 : 1 ≤ kinds.length ∧ kinds.getD (kinds.length - 1) 0 = 112 := by
      unfold formS at hf
      repeat' split at hf
      all_goals (try (cases hf; exact ⟨by decide, rfl⟩))
      all_goals first
        | exact absurd ‹_› e1
        | exact absurd ‹_› e2
        | exact absurd ‹_› e3
        | cases hf
    obtain ⟨m, hm⟩ : ∃ m, c.length = m + 2 := ⟨c.length - 2, by omega⟩
    have := hw m 112 (by omega) (by rw [show min m (kinds.length - 1) = kinds.length - 1 by omega]; exact hk0.2)
    rw [show c.length - 1 = m + 1 by omega]
    exact fits_path this
end Go.Proofs.Sm
