/- A cell of a row of the call's own is written; rows of flat elements. No program is in sight here. -/
import Derived.Test.YtadokhhgljddkaaGreatDoorH19x8
import Derived.Test.YtadokhhgljddkaaGreatDoorH19x6
import Derived.Test.YtadokhhgljddkaaGreatDoorH19x9
import Derived.Test.YtadokhhgljddkaaGreatDoorH19x3
import Derived.Laws.OwnMore
namespace Go.Proofs.Sm
open Go.RowKit

/-- strings in order, each once -/
theorem outs_before {l : List ByteArray} (h : listErr outErr id none l = 0) : ∀ (i j : Nat) (x y : ByteArray), i < j → l[i]? = some x → l[j]? = some y → ltS x y = true := by
  have step : ∀ i x y, l[i]? = some x → l[i + 1]? = some y → ltS x y = true := by
    intro i x y hx hy
    have h1 := listErr_at h (i + 1) y hy
    rw [ahead_succ hx] at h1
    have h3 := outErr_after h1
    rw [notAfter] at h3
    exact leS_lt h3
  have key : ∀ d i x y, l[i]? = some x → l[i + d + 1]? = some y → ltS x y = true := by
    intro d
    induction d with
    | zero => intro i x y hx hy; exact step i x y hx hy
    | succ d ih =>
      intro i x y hx hy
      obtain ⟨z, hz⟩ : ∃ z, l[i + d + 1]? = some z := by
        have := (List.getElem?_eq_some_iff.1 hy).1
        exact ⟨l[i + d + 1]'(by omega), List.getElem?_eq_getElem _⟩
      exact bl_trans (ih i x z hx hz) (step (i + d + 1) z y hz hy)
  intro i j x y hij hx hy
  refine key (j - i - 1) i x y hx ?_
  rw [show i + (j - i - 1) + 1 = j by omega]
  exact hy
theorem ltS_ne {x y : ByteArray} (h : ltS x y = true) : ¬ x.data.toList = y.data.toList := by
  intro e
  unfold ltS at h
  rw [Lib.toList_data, Lib.toList_data, e, bl_irrefl] at h
  cases h
theorem outs_new {l : List ByteArray} (h : listErr outErr id none l = 0) {t : Nat} {p : ByteArray} (hp : l[t]? = some p) : (l.take t).any (fun x => x.data.toList == p.data.toList) = false := by
  rw [List.any_eq_false]
  intro x hx
  obtain ⟨j, hj⟩ := List.getElem?_of_mem hx
  rw [List.getElem?_take] at hj
  split at hj
  · rename_i hjt
    have := ltS_ne (outs_before h j t x p hjt hj hp)
    simpa using this
  · cases hj
/-- which rule has an output: of those ahead of output t of rule i -/
def ofAt (l : List RuleV) (i t : Nat) : List UInt8 → Option Value := fun key => if ((outsAt l i).take t).any (fun x => x.data.toList == key) then some (.int .i64 (i : Int)) else (lastOf l i key).map fun k : Nat => .int .i64 (k : Int)
section
variable {l : List RuleV} {i t : Nat} {p : ByteArray}
theorem ofAt_start (l : List RuleV) (key : List UInt8) : ofAt l 0 0 key = none := by simp [ofAt, lastOf]
theorem ofAt_more (hp : (outsAt l i)[t]? = some p) (key : List UInt8) : (if key = p.data.toList then some (.int .i64 (i : Int)) else ofAt l i t key) = ofAt l i (t + 1) key := by
  rw [ofAt, ofAt, List.take_add_one, hp, List.any_append]
  by_cases h : key = p.data.toList
  · subst h; simp
  · have : ¬ p.data.toList = key := fun e => h e.symm
    simp [h, this]
theorem ofAt_next (ht : (outsAt l i).length ≤ t) (key : List UInt8) : ofAt l i t key = ofAt l (i + 1) 0 key := by
  rw [ofAt, ofAt, List.take_of_length_le ht, lastOf]
  simp only [List.take_zero, List.any_nil, Bool.false_eq_true, if_false]
  split <;> simp_all
theorem ofAt_zero (l : List RuleV) (i : Nat) (key : List UInt8) : ofAt l i 0 key = (lastOf l i key).map fun k : Nat => .int .i64 (k : Int) := by simp [ofAt]
theorem ofAt_look (hok : RulesOk l) (hp : (outsAt l i)[t]? = some p) : ofAt l i t p.data.toList = (lastOf l i p.data.toList).map fun k : Nat => .int .i64 (k : Int) := by
  rw [ofAt, outs_new (hok.outs i).2.1 hp]; rfl
theorem ofAt_there (hok : RulesOk l) (hp : (outsAt l i)[t]? = some p) : (ofAt l i t p.data.toList).isSome = twiceS l i p := by
  rw [ofAt_look hok hp, Option.isSome_map]
  cases h : lastOf l i p.data.toList with
  | none => rw [lastOf_none.1 h]; rfl
  | some k =>
    cases h2 : twiceS l i p with
    | true => rfl
    | false => rw [lastOf_none.2 h2] at h; cases h
theorem outputErr_twice (h : twiceS l i p = true) : outputErr l i p = 7 := by rw [outputErr, if_pos h]
theorem outputErr_rest (hok : RulesOk l) (hp : p ∈ outsAt l i) (h : twiceS l i p = false) : outputErr l i p = if meetsS l p = true then 12 else 0 := by
  rw [outputErr, if_neg (by rw [h]; decide), meets_cross hok hp]
end
/-- what a rule needs, by its first inputs -/
def needSet (l : List RuleV) (i t : Nat) : Int → Option Value := fun key => if ((insAt l i).take t).any (fun p => (lastOf l l.length p.data.toList).any fun k : Nat => (k : Int) == key) then some (.bool true) else none
section
variable {l : List RuleV} {i t k : Nat} {p : ByteArray}
theorem needSet_start (l : List RuleV) (i : Nat) (key : Int) : needSet l i 0 key = none := by simp [needSet]
theorem needSet_yes (hp : (insAt l i)[t]? = some p) (hk : lastOf l l.length p.data.toList = some k) (key : Int) : (if key = (k : Int) then some (.bool true) else needSet l i t key) = needSet l i (t + 1) key := by
  rw [needSet, needSet, List.take_add_one, hp, List.any_append]
  by_cases h : key = (k : Int)
  · subst h; simp [hk]
  · have : ¬ (k : Int) = key := fun e => h e.symm
    simp [hk, h, this]
theorem needSet_no (hp : (insAt l i)[t]? = some p) (hk : lastOf l l.length p.data.toList = none) (key : Int) : needSet l i t key = needSet l i (t + 1) key := by
  rw [needSet, needSet, List.take_add_one, hp, List.any_append]
  simp [hk]
theorem needSet_end (h : allOutputsErr l = 0) (ht : (insAt l i).length ≤ t) (key : Int) : (needSet l i t key).isSome = true ↔ ∃ k : Nat, k < l.length ∧ usesS l i k = true ∧ key = (k : Int) := by
  rw [needSet, List.take_of_length_le ht]
  have e : ((if ((insAt l i).any fun p => (lastOf l l.length p.data.toList).any fun k : Nat => (k : Int) == key) = true then some (Value.bool true) else none).isSome = true) ↔ ((insAt l i).any fun p => (lastOf l l.length p.data.toList).any fun k : Nat => (k : Int) == key) = true := by
    split <;> simp_all
  rw [e, List.any_eq_true]
  constructor
  · rintro ⟨p, hp, hk⟩
    rw [Option.any_eq_true] at hk
    obtain ⟨k, hk, he⟩ := hk
    have he' : (k : Int) = key := by simpa using he
    exact ⟨k, (lastOf_lt hk).1, (uses_iff h i k).2 ⟨p, hp, hk⟩, he'.symm⟩
  · rintro ⟨k, _, hu, rfl⟩
    obtain ⟨p, hp, hk⟩ := (uses_iff h i k).1 hu
    exact ⟨p, hp, by rw [hk]; simp⟩
theorem needs_row (hi : i < l.length) : (needsS l)[i]? = some ((List.range l.length).filter (usesS l i)) := by
  rw [needsS, List.getElem?_map, List.getElem?_range hi]; rfl
theorem needs_more (hi : i < l.length) : (needsS l).take (i + 1) = (needsS l).take i ++ [(List.range l.length).filter (usesS l i)] := by
  rw [List.take_add_one, needs_row hi]; rfl
end
end Go.Proofs.Sm

namespace Go.Proofs.Sm
open Go.RowKit

section
variable {w w' : World} {B : Nat}
theorem RowK.slKind {α : Type} [Rep α] {e : TypeId} {v : Value} {l : List α} (h : RowK w B e (fun _ => False) v l) : ∃ A c, v = .slice A l.length c ∧ l.length ≤ c ∧ c ≤ maxLen ∧ Sl w (Kind e w) A l.length l := by
  have hkind := h.kind
  obtain ⟨hk, rows, hr, hown, hrep⟩ := id h
  obtain ⟨A, c, rfl, h1, h2, h3⟩ := h.sl
  refine ⟨A, c, rfl, h1, h2, h3.1, h3.2.1, fun hn => ?_⟩
  obtain ⟨b, o, rfl, hb, hc⟩ := h3.2.2 hn
  have hkb := (hkind b rfl).2
  have hown' := hown.2
  rcases hown' with ⟨h4, _⟩ | ⟨g, cap, cur, h4, hbg, hh, _⟩
  · cases h4
  · cases h4
    refine ⟨_, 0, rfl, hkb, fun i x hx => ?_⟩
    obtain ⟨vs, _, hat⟩ := hc i x hx
    have hi : i < l.length := (List.getElem?_eq_some_iff.1 hx).1
    have hri : rows[i]? = some (rows[i]'(by omega)) := List.getElem?_eq_getElem (by omega)
    have hrp := hrep i x _ hx hri
    refine ⟨rows[i]'(by omega), Rep.more (fun _ hf => hf.elim) hrp, fun j u hu => ?_⟩
    have hlens : ∀ r ∈ rows, r.length = Rep.sz α := by
      intro r hr2
      obtain ⟨i, hi⟩ := List.getElem?_of_mem hr2
      have hi2 := (List.getElem?_eq_some_iff.1 hi).1
      exact Rep.len (hrep i l[i] r (List.getElem?_eq_getElem (by omega)) hi)
    have hj : j < Rep.sz α := by
      have := (List.getElem?_eq_some_iff.1 hu).1
      rw [hlens _ (List.mem_of_getElem? hri)] at this
      exact this
    have h5 := hown.cells (g := _) rfl (i * Rep.sz α + j) u (by rw [flatten_at hlens hri hj]; exact hu)
    rw [addr_add] at h5
    rw [← h5]
    congr 2
    omega
/-- what is left alone by a call over older blocks -/
theorem RowOwn.below {α : Type} [Rep α] {e ty : TypeId} {v : Value} {l : List α} {C : Nat} (h : RowOwn w B e ty v l) (hC : w.heap.size ≤ C) (hb : Below C w w') : RowOwn w' B e ty v l := h.call (hb.mono hC)
end
end Go.Proofs.Sm

namespace Go.Proofs.Sm
open Go.RowKit

/-- A plan: the rules, which rule has an output, who needs whom. -/
structure PlanAt (B : Nat) (w : World) (g : Nat) (A : Option Addr) (n c : Nat) (l : List RuleV) : Prop where
  low : B ≤ g
  cells : ∃ (m nn : Nat) (D : Option Addr) (d : Nat), Arr w g 56 [.slice A n c, .map (some m), .slice D n d] ∧ MapIs Tryz.prog 9 w m nn (ofAt l n 0) ∧ n ≤ d ∧ d ≤ maxLen ∧ Sl w (Lt w.heap.size) D n (needsS l)
theorem PlanAt.call {B : Nat} {w w' : World} {g : Nat} {A : Option Addr} {n c : Nat} {l : List RuleV} (h : PlanAt B w g A n c l) (hb : Below w.heap.size w w') : PlanAt B w' g A n c l := by
  obtain ⟨h0, m, nn, D, d, h1, h2, h3, h4, h5⟩ := h
  exact ⟨h0, m, nn, D, d, h1.call hb, h2.call hb, h3, h4, sl_call h5 hb (Nat.le_refl _)⟩
theorem PlanAt.lt {B : Nat} {w : World} {g : Nat} {A : Option Addr} {n c : Nat} {l : List RuleV} (h : PlanAt B w g A n c l) : g < w.heap.size := by
  obtain ⟨_, _, _, _, _, h1, _⟩ := h
  exact h1.lt
/-- the cells of a rule in a box -/
theorem rule_box (w : World) (x : RuleV) (A1 : Option Addr) (n1 c1 : Nat) (A2 : Option Addr) (n2 c2 : Nat) (A3 : Option Addr) (n3 c3 : Nat) (A4 : Option Addr) (n4 c4 : Nat) (A5 : Option Addr) (n5 c5 : Nat) :
    Arr (w.alloc (.cells #[.string x.name, .string x.action.tool, .slice A1 n1 c1, .slice A2 n2 c2, .slice A3 n3 c3, .slice A4 n4 c4, .int .i64 x.action.time, .slice A5 n5 c5] 51)) w.heap.size 51 (ruleCells x A1 n1 c1 A2 n2 c2 A3 n3 c3 A4 n4 c4 A5 n5 c5) := heap_alloc_new w _
/-- the post of open -/
def OpenPost (A : Option Addr) (n c : Nat) (l : List RuleV) (w : World) (e : Ending) (w' : World) : Prop :=
  ∃ v, e = .returned (.tuple #[v, .int .i64 (checkRulesS l)]) ∧ (checkRulesS l ≠ 0 → v = .pointer none) ∧ (checkRulesS l = 0 → ∃ g, v = .pointer (some ⟨g, 0, none⟩) ∧ PlanAt w.heap.size w' g A n c l) ∧ Below w.heap.size w w'
theorem OpenPost.bad {A : Option Addr} {n c : Nat} {l : List RuleV} {w w' : World} {f : Int} (hf : checkRulesS l = f) (h0 : f ≠ 0) (hb : Below w.heap.size w w') : OpenPost A n c l w (.returned (.tuple #[.pointer none, .int .i64 f])) w' :=
  ⟨_, by rw [hf], fun _ => rfl, fun h => absurd (hf.symm.trans h) h0, hb⟩
theorem OpenPost.good {A : Option Addr} {n c : Nat} {l : List RuleV} {w w' : World} {g : Nat} (hf : checkRulesS l = 0) (hp : PlanAt w.heap.size w' g A n c l) (hb : Below w.heap.size w w') : OpenPost A n c l w (.returned (.tuple #[.pointer (some ⟨g, 0, none⟩), .int .i64 0])) w' :=
  ⟨_, by rw [hf], fun h => absurd hf h, fun _ => ⟨g, rfl, hp⟩, hb⟩
theorem of_lookup {w : World} {m nn : Nat} {f : List UInt8 → Option Value} (h : MapIs Tryz.prog 9 w m nn f) {z : ByteArray} (hz : z.size ≤ maxLen) :
    (Instr.lookup 53 (.map (some m)) (.string z) true).run Tryz.prog w = .ok (.tuple #[(f z.data.toList).getD (.int .i64 0), .bool (f z.data.toList).isSome]) w :=
  h.look_ok (t := 53) (e := 3) (by kernel_rfl) (by kernel_rfl) (by kernel_rfl) hz
theorem RowOwn.parts {α : Type} [Rep α] {w : World} {B : Nat} {e ty : TypeId} {v : Value} {l : List α} (h : RowOwn w B e ty v l) : ∃ rows : List (List Value), rows.length = l.length ∧
    ∀ w', Below w.heap.size w w' → w'.ownsRow B e (Rep.sz α) v l.length rows.flatten ∧ ∀ (i : Nat) (x : α) (r : List Value), l[i]? = some x → rows[i]? = some r → Rep.rep w' (Kind ty w') x r := by
  have hkind := h.kind
  obtain ⟨rows, hr, hown, hrep⟩ := h
  refine ⟨rows, hr, fun w' hb => ⟨ownsRow_keep hown fun g hg => hb.block g (hkind g hg).2.lt, fun i x r hx hri => ?_⟩⟩
  have h1 : ∀ k, Kind ty w k → w'.heap[k]? = w.heap[k]? := fun k hk => hb.block k hk.lt
  exact Rep.more (Kind.of_keep h1) (Rep.keep h1 (hrep i x r hx hri))
theorem needs_sorted (mb nn a t : Nat) (l : List RuleV) (wy : World) (hz : MapZ Tryz.prog 3 wy mb nn (needSet l a t)) (ht : (insAt l a).length ≤ t) (h : allOutputsErr l = 0) (hl : l.length ≤ 500) (hn : nn ≤ 1000000000) :
    Calls Tryz.prog 46 #[.func (.func 83) #[] #[.pointer (some ⟨wy.heap.size, 0, none⟩)]] (wy.drew.alloc (.cells #[.map (some mb)] 88)) fun e w' =>
      ∃ A4 n4 c4, e = .returned (.slice A4 n4 c4) ∧ Rep.rep w' (Kind 3 w') ((List.range l.length).filter (usesS l a)) [.slice A4 n4 c4] ∧ Below wy.heap.size wy w' := by
  refine (sorted_mapintbool mb nn l.length (usesS l a) (needSet l a t) wy.drew (hz.keep rfl) hn (by omega) (needSet_end h ht)).mono ?_
  rintro e w' ⟨v, rfl, hr, hb⟩
  obtain ⟨A4, c4, rfl, h1, h2, h3⟩ := hr.slKind
  exact ⟨A4, _, c4, rfl, ⟨A4, _, c4, rfl, h1, h2, h3⟩, of_drew hb⟩
/-- one more row of numbers is put to the plan's rows -/
theorem deps_next {w4 w9 : World} {o : Obj} {g B g9 cap : Nat} {v v0 v1 : Value} {L : List (List Nat)} {r : List Nat} {sl : Value} {rows : List (List Value)} (hP : Arr w4 g 56 [v0, v1, v]) (hgB : g < B)
    (hr : rows.length = L.length) (hown : (w4.alloc o).ownsRow B 41 1 v L.length rows.flatten) (hrep : ∀ (i : Nat) (x : List Nat) (q : List Value), L[i]? = some x → rows[i]? = some q → Rep.rep (w4.alloc o) (Kind 3 (w4.alloc o)) x q)
    (hx : Rep.rep w4 (Kind 3 w4) r [sl]) (hg : (w4.alloc o).grownBy w9 v.ownBlock) (hown9 : w9.ownsRow B 41 1 (.slice (some ⟨g9, 0, none⟩) (L.length + 1) cap) (L.length + 1) (rows.flatten ++ [sl])) :
    Arr (w9.setCell ⟨g, 2, none⟩ (.slice (some ⟨g9, 0, none⟩) (L.length + 1) cap)) g 56 [v0, v1, .slice (some ⟨g9, 0, none⟩) (L.length + 1) cap] ∧
      RowOwn (w9.setCell ⟨g, 2, none⟩ (.slice (some ⟨g9, 0, none⟩) (L.length + 1) cap)) B 41 3 (.slice (some ⟨g9, 0, none⟩) (L.length + 1) cap) (L ++ [r]) := by
  have hbo : Below w4.heap.size w4 (w4.alloc o) := fr_alloc (fr_refl w4) o
  have hP9 : Arr w9 g 56 [v0, v1, v] := (hP.call hbo).grown hg fun e => by have := (hown.lt g e).1; omega
  have h1 : ∀ k, Kind 3 w4 k → (w4.alloc o).heap[k]? = w4.heap[k]? := fun k hk => hbo.block k hk.lt
  have hx' : Rep.rep (w4.alloc o) (Kind 3 (w4.alloc o)) r [sl] := Rep.more (Kind.of_keep h1) (Rep.keep h1 hx)
  have hR := RowOwn.append (x := r) (r := [sl]) (ty := 3) hr hown hrep hx' (by decide) hg hown9
  exact ⟨hP9.set 2 _, hR.set (t := 56) (p := ⟨g, 2, none⟩) ⟨_, _, hP9⟩ (by decide) (by decide) _⟩
end Go.Proofs.Sm

namespace Go.Proofs.Sm
open Go.RowKit

/-- all blocks of W but one are as they were -/
def KeepM (W : World) (m : Nat) (w : World) : Prop := W.heap.size ≤ w.heap.size ∧ ∀ b, b < W.heap.size → b ≠ m → w.heap[b]? = W.heap[b]?
theorem KeepM.refl (W : World) (m : Nat) : KeepM W m W := ⟨Nat.le_refl _, fun _ _ _ => rfl⟩
theorem KeepM.call {W w w' : World} {m : Nat} (h : KeepM W m w) (hb : Below w.heap.size w w') : KeepM W m w' :=
  ⟨Nat.le_trans h.1 hb.size, fun b h1 h2 => (hb.block b (Nat.lt_of_lt_of_le h1 h.1)).trans (h.2 b h1 h2)⟩
theorem KeepM.grown {W w w' : World} {m : Nat} (h : KeepM W m w) (hg : w.grownBy w' (some m)) : KeepM W m w' :=
  ⟨Nat.le_trans h.1 hg.size, fun b h1 h2 => (hg.block b (Nat.lt_of_lt_of_le h1 h.1) fun e => h2 (Option.some.inj e)).trans (h.2 b h1 h2)⟩
theorem KeepM.grown' {W w w' : World} {m : Nat} {row : Option Nat} (h : KeepM W m w) (hg : w.grownBy w' row) (hr : ∀ b, row = some b → W.heap.size ≤ b) : KeepM W m w' :=
  ⟨Nat.le_trans h.1 hg.size, fun b h1 h2 => (hg.block b (Nat.lt_of_lt_of_le h1 h.1) fun e => by have := hr b e.symm; omega).trans (h.2 b h1 h2)⟩
theorem KeepM.set {W w : World} {m : Nat} (h : KeepM W m w) (i : Nat) (u : Value) : KeepM W m (w.setCell ⟨m, i, none⟩ u) :=
  ⟨by rw [size_setCell']; exact h.1, fun b h1 h2 => (heap_setCell_other w ⟨m, i, none⟩ b u h2).trans (h.2 b h1 h2)⟩
theorem slice_one (A : Option Addr) (n c : Nat) : ∀ u ∈ [Value.slice A n c], u.oneCell' = true := by
  intro u hu
  rw [List.mem_singleton] at hu
  subst hu; rfl
set_option maxHeartbeats 0 in
set_option maxRecDepth 100000 in
theorem steps_open (A : Option Addr) (n c : Nat) (l : List RuleV) (w : World) (hE : Env w) (hsl : Sl w (Lt w.heap.size) A n l) :
    Calls Tryz.prog 14 #[.slice A n c] w (OpenPost A n c l w) := by
  have hm : n ≤ 9223372036854775807 := hsl.2.1
  have HL := Lib.hid hsl.1
  by_cases hbig : (500 : Int) < (n : Int)
  · have HV := Lib.hid (cr_large (l := l) (by rw [HL.out]; exact hbig))
    go_enter Tryz.func14, Tryz.ntmps14
    go_wp2
    go_ret2
    exact OpenPost.bad HV.out (by decide) (Below.refl _ _)
  have HB := Lib.hid (show l.length ≤ 500 by rw [HL.out]; omega)
  go_enter Tryz.func14, Tryz.ntmps14
  go_wp2
  go_loopw [29] (fun i wr => ∃ k : Nat, k ≤ n ∧ i = .int .i64 k ∧ listErr ruleErr RuleV.name none l = listErr ruleErr RuleV.name (ahead RuleV.name l k) (l.drop k) ∧ Below w.heap.size w wr) (fun i _ => n - (intOf i).toNat)
  case atStart => exact ⟨0, Nat.zero_le _, rfl, rfl, Below.refl _ _⟩
  case round =>
    obtain ⟨k, hk, rfl, hd, hbel⟩ := hrel
    have Hr := Lib.hid hd; clear hd
    have hEr := hE.then_ hbel
    have hslr := sl_call hsl hbel (Nat.le_refl _)
    by_cases hlt : k < n
    · have hkI : (k : Int) < (n : Int) := by omega
      obtain ⟨b, o, x, rfl, hx, A1, n1, c1, A2, n2, c2, A3, n3, c3, A4, n4, c4, A5, n5, c5, hri, q0, q1, q2, q3, q4, q5, q6, q7⟩ := hslr.ruleAll hlt
      have HX := Lib.hid hx; clear hx
      cases h0 : (checkRuleS x == 0)
      · have hne : checkRuleS x ≠ 0 := by simpa using h0
        have hbn : (checkRuleS x != 0) = true := by simpa using h0
        have HV := Lib.hid (list_stop (key := RuleV.name) HX.out (ruleErr_bad (prev := ahead RuleV.name l k) hne) hne)
        have HN := Lib.hid hne; clear hne
        go_wp2_with fail
        generalize hW0 : wr.alloc (.cells #[.string x.name, .string x.action.tool, .slice A1 n1 c1, .slice A2 n2 c2, .slice A3 n3 c3, .slice A4 n4 c4, .int .i64 x.action.time, .slice A5 n5 c5] 51) = W
        have hA0 : Arr W wr.heap.size 51 (ruleCells x A1 n1 c1 A2 n2 c2 A3 n3 c3 A4 n4 c4 A5 n5 c5) := by rw [← hW0]; exact rule_box ..
        have hb0 : Below wr.heap.size wr W := by rw [← hW0]; exact fr_alloc (fr_refl wr) _
        clear hW0
        refine (steps_checkRule x A1 A2 A3 A4 A5 n1 n2 n3 n4 n5 c1 c2 c3 c4 c5 W (hEr.then_ hb0) (hri.then_ hb0)).mono ?_
        rintro e w1 ⟨rfl, hb1⟩
        have hb01 := fr_call hb0 hb1
        have hbw := fr_call hbel hb01
        have pn := (hA0.call hb1).cell (i := 0) rfl
        clear hA0 hb0 hb1
        go_wp2
        go_ret2
        exact OpenPost.bad (by rw [cr_rule HB.out (by rw [Hr.out, HV.out]; exact HN.out), Hr.out, HV.out]) HN.out hbw
      have hz : checkRuleS x = 0 := by simpa using h0
      have hbn : (checkRuleS x != 0) = false := by simpa using h0
      have HO := Lib.hid (ruleErr_rest (prev := ahead RuleV.name l k) hz); clear hz
      by_cases hk0 : 0 < k
      · have hg0 : decide ((0 : Int) < (k : Int)) = true := by simpa using hk0
        obtain ⟨_, _, z, e0, hbz, hy, _, d0⟩ := hslr.ruleName (k := k - 1) (by omega)
        cases e0
        have HA := Lib.hid (ahead_pos (f := RuleV.name) hk0 hy); clear hy
        have hbw0 : b < wr.heap.size := hbz
        cases hle : leS x.name z.name
        · have HV := Lib.hid (show ruleErr (ahead RuleV.name l k) x = 0 by rw [HO.out, HA.out]; simp [notAfter, hle])
          have hle' := leS_false hle
          go_wp2_with fail
          generalize hW0 : wr.alloc (.cells #[.string x.name, .string x.action.tool, .slice A1 n1 c1, .slice A2 n2 c2, .slice A3 n3 c3, .slice A4 n4 c4, .int .i64 x.action.time, .slice A5 n5 c5] 51) = W
          have hA0 : Arr W wr.heap.size 51 (ruleCells x A1 n1 c1 A2 n2 c2 A3 n3 c3 A4 n4 c4 A5 n5 c5) := by rw [← hW0]; exact rule_box ..
          have hb0 : Below wr.heap.size wr W := by rw [← hW0]; exact fr_alloc (fr_refl wr) _
          clear hW0
          refine (steps_checkRule x A1 A2 A3 A4 A5 n1 n2 n3 n4 n5 c1 c2 c3 c4 c5 W (hEr.then_ hb0) (hri.then_ hb0)).mono ?_
          rintro e w1 ⟨rfl, hb1⟩
          have hb01 := fr_call hb0 hb1
          have hbw := fr_call hbel hb01
          have pn := (hA0.call hb1).cell (i := 0) rfl
          clear hA0 hb0 hb1
          have d1 : w1.cell? ⟨b, o + (k - 1) * 8, none⟩ = some (.string z.name) := by rw [hb01.cell (by exact hbw0)]; exact d0
          go_wp2
          have g1 := IntWalk.i64_in ((k : Int) - 1) ⟨by omega, by omega⟩; have g2 : ((k : Int) - 1).toNat = k - 1 := (by omega); have g3 : (0 : Int) ≤ (k : Int) - 1 := (by omega); have g4 : (k : Int) - 1 < (n : Int) := (by omega)
          go_quiet (fail)
          clear g1 g2 g3 g4
          go_wp2
          go_roundw
          case rel => exact ⟨k + 1, by omega, by go_num, by rw [Hr.out]; exact list_round HX.out HV.out, below_drewN hbw _⟩
          case measure => simp [intOf]; omega
        · have HV := Lib.hid (list_stop (key := RuleV.name) HX.out (show ruleErr (ahead RuleV.name l k) x = 8 by rw [HO.out, HA.out]; simp [notAfter, hle]) (by decide))
          have hle' := leS_true hle
          go_wp2_with fail
          generalize hW0 : wr.alloc (.cells #[.string x.name, .string x.action.tool, .slice A1 n1 c1, .slice A2 n2 c2, .slice A3 n3 c3, .slice A4 n4 c4, .int .i64 x.action.time, .slice A5 n5 c5] 51) = W
          have hA0 : Arr W wr.heap.size 51 (ruleCells x A1 n1 c1 A2 n2 c2 A3 n3 c3 A4 n4 c4 A5 n5 c5) := by rw [← hW0]; exact rule_box ..
          have hb0 : Below wr.heap.size wr W := by rw [← hW0]; exact fr_alloc (fr_refl wr) _
          clear hW0
          refine (steps_checkRule x A1 A2 A3 A4 A5 n1 n2 n3 n4 n5 c1 c2 c3 c4 c5 W (hEr.then_ hb0) (hri.then_ hb0)).mono ?_
          rintro e w1 ⟨rfl, hb1⟩
          have hb01 := fr_call hb0 hb1
          have hbw := fr_call hbel hb01
          have pn := (hA0.call hb1).cell (i := 0) rfl
          clear hA0 hb0 hb1
          have d1 : w1.cell? ⟨b, o + (k - 1) * 8, none⟩ = some (.string z.name) := by rw [hb01.cell (by exact hbw0)]; exact d0
          go_wp2
          have g1 := IntWalk.i64_in ((k : Int) - 1) ⟨by omega, by omega⟩; have g2 : ((k : Int) - 1).toNat = k - 1 := (by omega); have g3 : (0 : Int) ≤ (k : Int) - 1 := (by omega); have g4 : (k : Int) - 1 < (n : Int) := (by omega)
          go_quiet (fail)
          clear g1 g2 g3 g4
          go_wp2
          go_ret2
          exact OpenPost.bad (by rw [cr_rule HB.out (by rw [Hr.out, HV.out]; decide), Hr.out, HV.out]) (by decide) (below_drewN hbw _)
      · have hg0 : decide ((0 : Int) < (k : Int)) = false := by simpa using hk0
        have HV := Lib.hid (show ruleErr (ahead RuleV.name l k) x = 0 by rw [HO.out, show ahead RuleV.name l k = none by simp [ahead]; omega]; rfl)
        go_wp2_with fail
        generalize hW0 : wr.alloc (.cells #[.string x.name, .string x.action.tool, .slice A1 n1 c1, .slice A2 n2 c2, .slice A3 n3 c3, .slice A4 n4 c4, .int .i64 x.action.time, .slice A5 n5 c5] 51) = W
        have hA0 : Arr W wr.heap.size 51 (ruleCells x A1 n1 c1 A2 n2 c2 A3 n3 c3 A4 n4 c4 A5 n5 c5) := by rw [← hW0]; exact rule_box ..
        have hb0 : Below wr.heap.size wr W := by rw [← hW0]; exact fr_alloc (fr_refl wr) _
        clear hW0
        refine (steps_checkRule x A1 A2 A3 A4 A5 n1 n2 n3 n4 n5 c1 c2 c3 c4 c5 W (hEr.then_ hb0) (hri.then_ hb0)).mono ?_
        rintro e w1 ⟨rfl, hb1⟩
        have hb01 := fr_call hb0 hb1
        have hbw := fr_call hbel hb01
        have pn := (hA0.call hb1).cell (i := 0) rfl
        clear hA0 hb0 hb1
        go_wp2
        go_quiet (fail)
        go_wp2
        go_roundw
        case rel => exact ⟨k + 1, by omega, by go_num, by rw [Hr.out]; exact list_round HX.out HV.out, below_drewN hbw _⟩
        case measure => simp [intOf]; omega
    · have hz := show listErr ruleErr RuleV.name none l = 0 by rw [Hr.out, list_end (by rw [HL.out]; omega)]
      have HZ := Lib.hid hz; clear hz
      have hok := rulesOk_of (by have := HB.out; omega) HZ.out
      have HOK := Lib.hid hok; clear hok
      clear hEr Hr
      obtain ⟨m, hm0⟩ : ∃ m, m = wr.heap.size := ⟨_, rfl⟩
      have hmq : w.heap.size ≤ m := by have := hbel.size; omega
      have hmm := @run_makeMap Tryz.prog
      go_wp2_with fail
      clear hmm
      generalize hW0 : (wr.alloc (.map #[] 0)).alloc (.cells #[.slice A n c, .map (some wr.heap.size), .slice none 0 0] 56) = W
      have hM0 : MapIs Tryz.prog 9 W wr.heap.size 0 (ofAt l 0 0) := by
        rw [← hW0]
        exact ((MapIs.made (P := Tryz.prog) (k := 9) wr).congr (g := ofAt l 0 0) fun key => (ofAt_start l key).symm).alloc _
      have hP0 : Arr W (wr.heap.size + 1) 56 [.slice A n c, .map (some wr.heap.size), .slice none 0 0] := by
        rw [← hW0]
        have := heap_alloc_new (wr.alloc (.map #[] 0)) (.cells #[.slice A n c, .map (some wr.heap.size), .slice none 0 0] 56)
        rw [World.size_alloc] at this
        exact this
      have hb0 : Below wr.heap.size wr W := by rw [← hW0]; exact fr_alloc (fr_alloc (fr_refl wr) _) _
      clear hW0
      have hbW := fr_call hbel hb0
      have hslW := sl_call hsl hbW (Nat.le_refl _)
      rw [← hm0] at hM0 hP0 hb0
      refine (steps_tangleOf A n c l W hslW HOK.out).mono ?_
      rintro e w2 ⟨T, nt, t0, t1, t2, t3, rfl, hnt, mp0, mp1, mp3, hb2⟩
      have hM2 := hM0.call hb2
      have hP2 := hP0.call hb2
      have hbw2 := fr_call hbW hb2
      have hgW := hP0.lt
      clear hM0 hP0 hb0 hbW hslW hslr hbel
      go_wp2
      generalize hW3 : w2.alloc (.cells #[.map (some T.m0), .map (some T.m1), .map (some T.m2), .map (some T.m3)] 85) = W3
      have hb3 : Below w2.heap.size w2 W3 := by rw [← hW3]; exact fr_alloc (fr_refl w2) _
      have hG3 : Arr W3 w2.heap.size 85 [.map (some T.m0), .map (some T.m1), .map (some T.m2), .map (some T.m3)] := by rw [← hW3]; exact heap_alloc_new w2 _
      clear hW3
      have hM3 := hM2.call hb3
      have hP3 := hP2.call hb3
      have hp0' := mp0.call hb3
      have hp1' := mp1.call hb3
      have hp3' := mp3.call hb3
      have hbw3 := fr_call hbw2 hb3
      obtain ⟨gt, hgt⟩ : ∃ gt, gt = w2.heap.size := ⟨_, rfl⟩
      have hWgt : W.heap.size ≤ gt := by have := hb2.size; omega
      rw [← hgt] at hG3
      rw [← hm0, ← hgt]
      clear hm0
      rw [← HL.out] at hp0' hp1' hp3'
      have HBase := Lib.hid (fun (wx : World) (hk : KeepM W3 m wx) => show Arr wx (m + 1) 56 [.slice A n c, .map (some m), .slice none 0 0] ∧ Arr wx gt 85 [.map (some T.m0), .map (some T.m1), .map (some T.m2), .map (some T.m3)] ∧ MapIs Tryz.prog 9 wx T.m0 nt (setOf (outK l l.length)) ∧ MapIs Tryz.prog 9 wx T.m1 nt (setOf (inK l l.length)) ∧ MapIs Tryz.prog 9 wx T.m3 nt (setOf (inOK l l.length)) from
        ⟨hP3.keep (hk.2 _ hP3.lt (by omega)), hG3.keep (hk.2 _ hG3.lt (by omega)), hp0'.keep (hk.2 _ hp0'.lt (by omega)), hp1'.keep (hk.2 _ hp1'.lt (by omega)), hp3'.keep (hk.2 _ hp3'.lt (by omega))⟩)
      have hmW3 : m < W3.heap.size := hM3.lt
      clear hP3 hG3 hp0' hp1' hp3' mp0 mp1 mp3 hM2 hP2 hb2 hb3 hbw2 hgt
      go_loopw [61] (fun iv wx => ∃ i nn : Nat, i ≤ n ∧ iv = .int .i64 i ∧ nn ≤ i * 1000 ∧ allOutputsErr l = firstErr (outputsErr l) ((List.range n).drop i) ∧ MapIs Tryz.prog 9 wx m nn (ofAt l i 0) ∧ KeepM W3 m wx ∧ Below w.heap.size w wx) (fun iv _ => n - (intOf iv).toNat)
      case atStart => exact ⟨0, 0, Nat.zero_le _, rfl, Nat.zero_le _, by rw [allOutputsErr, HL.out]; rfl, hM3, KeepM.refl _ _, hbw3⟩
      case round =>
        clear hM3 hbw3
        obtain ⟨i, nn, hi, rfl, hnn, hd, hM, hkp, hbel⟩ := hrel
        have Hd := Lib.hid hd; clear hd
        by_cases hli : i < n
        · have hiI : (i : Int) < (n : Int) := by omega
          obtain ⟨b, o, x, rfl, hbq, hx, A1, n1, c1, A2, n2, c2, A3, n3, c3, A4, n4, c4, A5, n5, c5, _, _, ⟨_, _, s3, _, s5⟩, q0, q1, q2, q3, q4, q5, q6, q7⟩ := hsl.rule hli
          rw [← outsAt_some hx] at s3
          have hn3 : (outsAt l i).length = n3 := s3.1
          have hm3 : n3 ≤ 9223372036854775807 := s3.2.1
          have ho1 := (HOK.out.outs i).1
          have cell : ∀ {j v}, w.cell? ⟨b, o + i * 8 + j, none⟩ = some v → wr.cell? ⟨b, o + i * 8 + j, none⟩ = some v := fun h => (hbel.cell (p := ⟨b, _, none⟩) hbq).trans h
          have p0 := cell (j := 0) q0
          have p1 := cell q1
          have p2 := cell q2
          have p3 := cell q3
          have p4 := cell q4
          have p5 := cell q5
          have p6 := cell q6
          have p7 := cell q7
          clear q0 q1 q2 q3 q4 q5 q6 q7 hx cell
          rw [Nat.add_zero] at p0
          have r4 := (rule_box wr x A1 n1 c1 A2 n2 c2 A3 n3 c3 A4 n4 c4 A5 n5 c5).cell (i := 4) rfl
          have hbx : Below wr.heap.size wr (wr.alloc (.cells #[.string x.name, .string x.action.tool, .slice A1 n1 c1, .slice A2 n2 c2, .slice A3 n3 c3, .slice A4 n4 c4, .int .i64 x.action.time, .slice A5 n5 c5] 51)) := fr_alloc (fr_refl wr) _
          have hM1 := hM.call hbx
          have hk1 := hkp.call hbx
          have hb1 := fr_call hbel hbx
          clear hM hkp hbx hbel
          go_wp2_with fail
          generalize wr.alloc (.cells #[.string x.name, .string x.action.tool, .slice A1 n1 c1, .slice A2 n2 c2, .slice A3 n3 c3, .slice A4 n4 c4, .int .i64 x.action.time, .slice A5 n5 c5] 51) = WB at hM1 hk1 hb1 r4 ⊢
          clear p0 p1 p2 p3 p4 p5 p6 p7 r4
          go_loopw [70] (fun jv wy => ∃ t mm : Nat, t ≤ n3 ∧ jv = .int .i64 t ∧ mm ≤ i * 1000 + t ∧ outputsErr l i = firstErr (outputErr l i) ((outsAt l i).drop t) ∧ MapIs Tryz.prog 9 wy m mm (ofAt l i t) ∧ KeepM W3 m wy ∧ Below w.heap.size w wy) (fun jv _ => n3 - (intOf jv).toNat)
          case atStart => exact ⟨0, nn, Nat.zero_le _, rfl, by omega, rfl, hM1, hk1, hb1⟩
          case round =>
            clear hM1 hk1 hb1
            obtain ⟨t, mm, ht, rfl, hmm, hd2, hM, hkp, hbel⟩ := hrel
            have Hd2 := Lib.hid hd2; clear hd2
            by_cases htn : t < n3
            · obtain ⟨b1, o1, p, rfl, _, hp, hps, cp⟩ := (s3.keep (keep_lt hbel)).str htn
              have HP := Lib.hid hp
              have hpz := HOK.out.outSize (List.mem_of_getElem? hp)
              clear hp
              have htI : (t : Int) < (n3 : Int) := by omega
              have pc := (HBase.out wr hkp).1.cell (i := 1) rfl
              have hgl := (HBase.out wr hkp).1.lt
              have hlk := of_lookup hM hps
              rw [ofAt_there HOK.out HP.out] at hlk
              generalize ((ofAt l i t p.data.toList).getD (.int .i64 0)) = vv at hlk
              cases htw : twiceS l i p
              · rw [htw] at hlk
                have HR := Lib.hid (outputErr_rest HOK.out (List.mem_of_getElem? HP.out) htw)
                clear htw
                go_wp2_with (at_mapUpdate; refine wpList_mapUpdate_is _ rfl _ _ _ 53 rfl Tryz.underlying9 Tryz.underlying53 rfl hM (by unfold maxLen; omega) p hps (.int .i64 (i : Nat)) rfl rfl ?_; intro w4 hmap4 hg4
                             have hk4 := hkp.grown hg4
                             have hG4 := (HBase.out w4 hk4).2.1
                             have c0 := hG4.cell (i := 0) rfl
                             have c1 := hG4.cell (i := 1) rfl
                             have c2 := hG4.cell (i := 2) rfl
                             have c3 := hG4.cell (i := 3) rfl)
                have hM4 := hmap4.congr (ofAt_more HP.out)
                have hb4 := hbel.grown hg4 hbel.size fun k hk => by cases hk; omega
                obtain ⟨_, _, mm0, mm1, mm3⟩ := HBase.out w4 hk4
                refine (steps_clashes T.m0 T.m1 T.m2 T.m3 nt l p w4 (by omega) mm0 mm1 mm3).mono ?_
                rintro e w5 ⟨rfl, hb5⟩
                have hM5 := hM4.call hb5
                have hk5 := hk4.call hb5
                have hbe5 := fr_call hb4 hb5
                clear hmap4 hg4 hk4 hG4 c0 c1 c2 c3 hM4 hb4 mm0 mm1 mm3 hb5 hM hkp hbel hlk pc
                cases hme : meetsS l p
                · have HV := Lib.hid (Hd2.out.trans (firstErr_round HP.out (by rw [HR.out, hme]; rfl)))
                  clear hme
                  go_wp2
                  go_roundw
                  case rel => exact ⟨t + 1, mm + 1, by omega, by go_num, by omega, HV.out, hM5, hk5, hbe5⟩
                  case measure => simp [intOf]; omega
                · have he : outputErr l i p = 12 := by rw [HR.out, hme]; rfl
                  have hV : outputsErr l i = 12 := (Hd2.out.trans (firstErr_stop HP.out (by rw [he]; decide))).trans he
                  have HV2 := Lib.hid (show allOutputsErr l = 12 from (Hd.out.trans (firstErr_stop (range_at hli) (by rw [hV]; decide))).trans hV)
                  clear hme he hV
                  go_wp2
                  go_ret2
                  exact OpenPost.bad (by rw [cr_out HB.out HZ.out (by rw [HV2.out]; decide), HV2.out]) (by decide) hbe5
              · rw [htw] at hlk
                have he : outputErr l i p = 7 := outputErr_twice htw
                have hV : outputsErr l i = 7 := (Hd2.out.trans (firstErr_stop HP.out (by rw [he]; decide))).trans he
                have HV2 := Lib.hid (show allOutputsErr l = 7 from (Hd.out.trans (firstErr_stop (range_at hli) (by rw [hV]; decide))).trans hV)
                clear htw he hV
                go_wp2
                go_ret2
                exact OpenPost.bad (by rw [cr_out HB.out HZ.out (by rw [HV2.out]; decide), HV2.out]) (by decide) hbel
            · have HV := Lib.hid (show outputsErr l i = 0 from Hd2.out.trans (firstErr_end (by omega)))
              have HV2 := Lib.hid (Hd.out.trans (firstErr_round (range_at hli) HV.out))
              have hM2 := hM.congr (ofAt_next (l := l) (i := i) (t := t) (by omega))
              clear hM
              go_wp2
              go_roundw
              case rel => exact ⟨i + 1, mm, by omega, by go_num, by omega, HV2.out, hM2, hkp, hbel⟩
              case measure => simp [intOf]; omega
        · have HO := Lib.hid (show allOutputsErr l = 0 from Hd.out.trans (firstErr_end (by simp; omega)))
          have HR := Lib.hid (cr_rest HB.out HZ.out HO.out)
          obtain rfl : i = n := by omega
          have hP5 := (HBase.out wr hkp).1
          have hmx : nn ≤ 1000000000 := by have := HB.out; have := HL.out; omega
          clear HBase hkp hmW3 hWgt hgW
          obtain ⟨s0, hs0, hsz0, hsz1, hsz2⟩ := info_parts ints_info
          obtain ⟨g, hg⟩ : ∃ g, g = m + 1 := ⟨_, rfl⟩
          rw [← hg] at hP5 ⊢
          obtain ⟨W5, hW5⟩ : ∃ W5, W5 = wr := ⟨_, rfl⟩
          have HM5 := Lib.hid (fun (wx : World) (hk : KeepM W5 g wx) => show MapIs Tryz.prog 9 wx m nn (ofAt l i 0) from by subst hW5; exact hM.keep (hk.2 m hM.lt (by omega)))
          have hgl5 : g < W5.heap.size := by rw [hW5]; exact hP5.lt
          have hqg : w.heap.size ≤ g := by omega
          have hzW5 : w.heap.size ≤ W5.heap.size := by rw [hW5]; exact hbel.size
          have hkp0 : KeepM W5 g wr := by rw [hW5]; exact KeepM.refl _ _
          clear hM hW5 hg
          go_wp2
          go_loopw [97] (fun iv wx => ∃ (a : Nat) (v : Value), a ≤ i ∧ iv = .int .i64 a ∧ Arr wx g 56 [.slice A i c, .map (some m), v] ∧ RowOwn wx W5.heap.size 41 3 v ((needsS l).take a) ∧ KeepM W5 g wx ∧ Below w.heap.size w wx) (fun iv _ => i - (intOf iv).toNat)
          case atStart => exact ⟨0, _, Nat.zero_le _, rfl, hP5, by rw [List.take_zero]; exact RowOwn.nil, hkp0, hbel⟩
          case round =>
            clear hP5 hkp0 hbel
            obtain ⟨a, v, ha, rfl, hP, hR, hkp, hbel⟩ := hrel
            by_cases hla : a < i
            · have haI : (a : Int) < (i : Int) := by omega
              obtain ⟨b, o, x, rfl, hbq, hx, A1, n1, c1, A2, n2, c2, A3, n3, c3, A4, n4, c4, A5, n5, c5, _, _, ⟨_, _, s3, _, s5⟩, q0, q1, q2, q3, q4, q5, q6, q7⟩ := hsl.rule hla
              rw [← insAt_some hx] at s5
              have hn5 : (insAt l a).length = n5 := s5.1
              have hm5 : n5 ≤ 9223372036854775807 := s5.2.1
              have ho2 := (HOK.out.ins a).1
              have cell : ∀ {j v}, w.cell? ⟨b, o + a * 8 + j, none⟩ = some v → wr.cell? ⟨b, o + a * 8 + j, none⟩ = some v := fun h => (hbel.cell (p := ⟨b, _, none⟩) hbq).trans h
              have p0 := cell (j := 0) q0
              have p1 := cell q1
              have p2 := cell q2
              have p3 := cell q3
              have p4 := cell q4
              have p5 := cell q5
              have p6 := cell q6
              have p7 := cell q7
              clear q0 q1 q2 q3 q4 q5 q6 q7 hx cell
              rw [Nat.add_zero] at p0
              obtain ⟨V, hV⟩ : ∃ V, V = wr.alloc (.cells #[.string x.name, .string x.action.tool, .slice A1 n1 c1, .slice A2 n2 c2, .slice A3 n3 c3, .slice A4 n4 c4, .int .i64 x.action.time, .slice A5 n5 c5] 51) := ⟨_, rfl⟩
              have hbx : Below wr.heap.size wr V := by rw [hV]; exact fr_alloc (fr_refl wr) _
              have hPV := hP.call hbx
              have hRV := hR.call hbx
              have hkV := hkp.call hbx
              have hbV := fr_call hbel hbx
              obtain ⟨mb, hmb⟩ : ∃ mb, mb = V.heap.size := ⟨_, rfl⟩
              have hmz : V.heap.size = wr.heap.size + 1 := by rw [hV]; simp
              have hZ0 : MapZ Tryz.prog 3 (V.alloc (.map #[] 0)) mb 0 (needSet l a 0) := by
                rw [hmb, show needSet l a 0 = fun _ => none from funext fun key => needSet_start l a key]; exact MapZ.made V
              have hbV1 : Below V.heap.size V (V.alloc (.map #[] 0)) := fr_alloc (fr_refl V) _
              have hmm := @run_makeMap Tryz.prog
              clear hP hR hkp hbel hbx
              go_wp2_with fail
              rw [← hV, ← hmz, ← hmb]
              have hVm : V.heap.size ≤ mb := by omega
              clear hV p0 p1 p2 p3 p4 p5 p6 p7 hmm hmb hmz
              go_loopw [105] (fun jv wy => ∃ t mm : Nat, t ≤ n5 ∧ jv = .int .i64 t ∧ mm ≤ t ∧ MapZ Tryz.prog 3 wy mb mm (needSet l a t) ∧ Below V.heap.size V wy) (fun jv _ => n5 - (intOf jv).toNat)
              case atStart => exact ⟨0, 0, Nat.zero_le _, rfl, Nat.zero_le _, hZ0, hbV1⟩
              case round =>
                clear hZ0 hbV1
                obtain ⟨t, mm, ht, rfl, hmm, hZ, hbel⟩ := hrel
                have hbw := fr_call hbV hbel
                by_cases htn : t < n5
                · obtain ⟨b1, o1, p, rfl, _, hp, hps, cp⟩ := (s5.keep (keep_lt hbw)).str htn
                  have HP := Lib.hid hp; clear hp
                  have htI : (t : Int) < (n5 : Int) := by omega
                  have hkw := hkV.call hbel
                  have hPw := hPV.call hbel
                  have pc := hPw.cell (i := 1) rfl
                  have hgl := hPw.lt
                  have hlk := of_lookup (HM5.out wr hkw) hps
                  rw [ofAt_zero] at hlk
                  clear hkw hPw
                  cases hlo : lastOf l i p.data.toList with
                  | none =>
                    rw [hlo] at hlk
                    simp only [Option.map_none, Option.getD_none, Option.isSome_none] at hlk
                    rw [show needSet l a t = needSet l a (t + 1) from funext (needSet_no HP.out (by rw [HL.out]; exact hlo))] at hZ
                    have HZn := Lib.hid hZ
                    clear hlo hZ
                    go_wp2
                    go_roundw
                    case rel => exact ⟨t + 1, mm, by omega, by go_num, by omega, HZn.out, hbel⟩
                    case measure => simp [intOf]; omega
                  | some k =>
                    rw [hlo] at hlk
                    simp only [Option.map_some, Option.getD_some, Option.isSome_some] at hlk
                    have hki := (lastOf_lt hlo).1
                    have HE := Lib.hid (show (fun key => if key = (k : Int) then some (.bool true) else needSet l a t key) = needSet l a (t + 1) from funext (needSet_yes HP.out (by rw [HL.out]; exact hlo)))
                    clear hlo
                    go_wp2_with (at_mapUpdate; refine wpList_mapUpdate_z _ rfl _ _ _ 88 rfl Tryz.underlying3 Tryz.underlying88 rfl hZ (by unfold maxLen; omega) (k : Nat) (by unfold InInt; omega) (.bool true) rfl rfl ?_; intro w4 hmap4 hg4)
                    rw [HE.out] at hmap4
                    have hb4 := hbel.grown hg4 hbel.size fun k hk => by cases hk; omega
                    clear hg4 hZ hbel
                    go_wp2
                    go_roundw
                    case rel => exact ⟨t + 1, mm + 1, by omega, by go_num, by omega, hmap4, hb4⟩
                    case measure => simp [intOf]; omega
                · have hte : (insAt l a).length ≤ t := by omega
                  have hkw := hkV.call hbel
                  have hPw := hPV.call hbel
                  obtain ⟨Lr, hLr⟩ : ∃ Lr, Lr = (needsS l).take a := ⟨_, rfl⟩
                  rw [← hLr] at hRV
                  have hlen : Lr.length ≤ 500 := by rw [hLr, List.length_take]; omega
                  have HNM := Lib.hid (show Lr ++ [(List.range l.length).filter (usesS l a)] = (needsS l).take (a + 1) by rw [hLr, ← needs_more (by rw [HL.out]; exact hla)])
                  obtain ⟨rows, hrows, hparts⟩ := (hRV.call hbel).parts
                  have HK1 := Lib.hid (keys_mapintbool mb wr.drew)
                  have HK2 := Lib.hid (needs_sorted mb mm a t l wr hZ hte HO.out HB.out (by omega))
                  have HP4 := Lib.hid (fun (w4 : World) (hb : Below wr.heap.size wr w4) => hPw.call hb)
                  have HOwn := Lib.hid (fun (w4 : World) (o : Obj) (hb : Below wr.heap.size wr w4) => hparts (w4.alloc o) (fr_alloc hb o))
                  have hzr : W5.heap.size ≤ wr.heap.size := hkw.1
                  have HBS := Lib.hid (fun (w4 : World) (o : Obj) (hb : Below wr.heap.size wr w4) => show W5.heap.size ≤ (w4.alloc o).heap.size from Nat.le_trans hzr (fr_alloc hb o).size)
                  have HP9 := Lib.hid (fun (w4 w9 : World) (ob : Obj) (hb : Below wr.heap.size wr w4) (hg : (w4.alloc ob).grownBy w9 v.ownBlock) => show Arr w9 g 56 [.slice (some ⟨b, o, none⟩) i c, .map (some m), v] from
                    (hPw.call (fr_alloc hb ob)).grown hg fun e => by have := ((HOwn.out w4 ob hb).1.lt g e).1; omega)
                  have HKn := Lib.hid (fun (w4 w9 : World) (ob : Obj) (u : Value) (hb : Below wr.heap.size wr w4) (hg : (w4.alloc ob).grownBy w9 v.ownBlock) => show KeepM W5 g (w9.setCell ⟨g, 2, none⟩ u) from
                    ((hkw.call (fr_alloc hb ob)).grown' hg fun b e => ((HOwn.out w4 ob hb).1.lt b e).1).set 2 u)
                  have HBn := Lib.hid (fun (w4 w9 : World) (ob : Obj) (u : Value) (hb : Below wr.heap.size wr w4) (hg : (w4.alloc ob).grownBy w9 v.ownBlock) => show Below w.heap.size w (w9.setCell ⟨g, 2, none⟩ u) from
                    ((fr_call hbw (fr_alloc hb ob)).grown hg (Nat.le_trans hbw.size (fr_alloc hb ob).size) fun b e => Nat.le_trans hzW5 ((HOwn.out w4 ob hb).1.lt b e).1).setCell (p := ⟨g, 2, none⟩) hqg u)
                  have H63 := Lib.hid (show Lr.length + 1 ≤ maxLen by unfold maxLen; omega)
                  have H48 := Lib.hid (show (Lr.length + 1) * 24 ≤ 140737488355328 by omega)
                  have pc := hPw.cell (i := 2) rfl
                  have hgl := hPw.lt
                  clear hZ hkw hPw hparts hbw hbel hPV hRV hkV hbV hLr
                  go_wp2_with fail
                  go_region_law (first
                    | (refine step_append_lies _ rfl _ _ 54 rfl W5.heap.size 41 s0 _ 1 24 Tryz.underlying54 hs0 hsz0 hsz1 hsz2 rfl (by decide) _ Lr.length _ rfl (HOwn.out w4 _ (by assumption)).1 ⟨w4.heap.size, 0, none⟩ 1 1 [.slice A4 n4 c4] rfl rfl (new_cells w4 #[_] _) (slice_one _ _ _) (by decide) H63.out H48.out (HBS.out w4 _ (by assumption)) _ rfl ?_
                       intro g9 cap w9 hown9 hg9 hat9 hlt9
                       have pc9 := (HP9.out w4 w9 _ hb4 hg9).cell (i := 2) rfl
                       have fz9 := (HP9.out w4 w9 _ hb4 hg9).frozen 2
                       have hgl9 := (HP9.out w4 w9 _ hb4 hg9).lt)
                    | (go_simp; go_at_call 47; refine HK1.out.mono ?_; rintro e w3 ⟨rfl, rfl⟩)
                    | (go_simp; go_at_call 46; refine HK2.out.mono ?_; rintro e w4 ⟨A4, n4, c4, rfl, hx4, hb4⟩
                       have pc4 := (HP4.out w4 hb4).cell (i := 2) rfl
                       have hgl4 := (HP4.out w4 hb4).lt))
                  all_goals
                    obtain ⟨hPn, hRn⟩ := deps_next (HP4.out w4 hb4) hgl5 hrows (HOwn.out w4 _ hb4).1 (HOwn.out w4 _ hb4).2 hx4 hg9 hown9
                    rw [HNM.out] at hRn
                    have hkn := HKn.out w4 w9 _ (.slice (some ⟨g9, 0, none⟩) (Lr.length + 1) cap) hb4 hg9
                    have hbn := HBn.out w4 w9 _ (.slice (some ⟨g9, 0, none⟩) (Lr.length + 1) cap) hb4 hg9
                    clear hown9 hg9 hat9 hlt9 pc9 fz9 hgl9 pc4 hgl4 hx4 hb4
                    go_wp2
                    go_roundw
                    case rel => exact ⟨a + 1, _, by omega, by go_num, hPn, hRn, hkn, hbn⟩
                    case measure => simp [intOf]; omega
            · have hea : a = i := by omega
              rw [hea, List.take_of_length_le (by rw [needsS_length, HL.out]; exact Nat.le_refl _)] at hR
              clear hea
              obtain ⟨D, d, hv, hd1, hd2, hDs⟩ := hR.sl
              rw [needsS_length, HL.out] at hv hd1 hDs
              subst hv
              have p0 := hP.cell (i := 0) rfl
              have p2 := hP.cell (i := 2) rfl
              clear hR
              go_wp2_with fail
              refine (steps_order_nil g A D i c d (needsS l) wr hP.lt p0 p2 hDs (needs_within l) (needs_nodup l) (by omega)).mono ?_
              rintro e w5 ⟨v5, rfl, _, hb5⟩
              have HPl := Lib.hid (show PlanAt w.heap.size w5 g A i c l from ⟨hqg, m, nn, D, d, hP.call hb5, (HM5.out wr hkp).call hb5, hd1, hd2, sl_call hDs hb5 (Nat.le_refl _)⟩)
              have hb6 := fr_call hbel hb5
              clear p0 p2 hb5 hP hDs hkp hbel
              have HR2 := Lib.hid (show checkRulesS l = if (orderS (needsS l) allTrue).2 = false then 17 else 0 from HR.out)
              generalize (orderS (needsS l) allTrue).2 = ord at HR2
              cases ord
              · have HV := Lib.hid (show checkRulesS l = 17 from HR2.out)
                go_wp2
                go_ret2
                exact OpenPost.bad HV.out (by decide) hb6
              · have HV := Lib.hid (show checkRulesS l = 0 from HR2.out)
                go_wp2
                go_ret2
                exact OpenPost.good HV.out HPl.out hb6
end Go.Proofs.Sm

namespace Go.Proofs.Sm
open Go.RowKit

end Go.Proofs.Sm

namespace Go.Proofs.Sm
open Go.RowKit

set_option maxRecDepth 100000 in
theorem equal_strings (A A' : Option Addr) (n c c' : Nat) (l : List ByteArray) (w : World) (hsl : Sl w (Lt w.heap.size) A n l) (hsl' : Sl w (Lt w.heap.size) A' n l) :
    Calls Tryz.prog 7 #[.slice A n c, .slice A' n c'] w fun e w' => e = .returned (.bool true) ∧ Below w.heap.size w w' := by
  have hm : n ≤ 9223372036854775807 := hsl.2.1
  go_enter Tryz.func7, Tryz.ntmps7
  go_wp2
  go_loopw [13] (fun i wr => ∃ k : Nat, k ≤ n ∧ i = .int .i64 k ∧ Below w.heap.size w wr) (fun i _ => n - (intOf i).toNat)
  case atStart => exact ⟨0, Nat.zero_le _, rfl, Below.refl _ _⟩
  case round =>
    obtain ⟨k, hk, rfl, hbel⟩ := hrel
    by_cases hlt : k < n
    · obtain ⟨b, o, x, rfl, hb, hx, hxs, c0⟩ := (hsl.keep (keep_lt hbel)).str hlt
      obtain ⟨b', o', y, rfl, hb', hy, hys, c0'⟩ := (hsl'.keep (keep_lt hbel)).str hlt
      have e : x = y := by rw [hx] at hy; exact Option.some.inj hy
      subst e
      clear hx hy
      have hkI : (k : Int) < (n : Int) := by omega
      have hs : (x.toList == x.toList) = true := by simp
      have hs' : (x.toList != x.toList) = false := by simp
      go_wp2
      go_quiet (fail)
      go_wp2
      go_roundw
      case rel => exact ⟨k + 1, by omega, by go_num, below_drewN hbel _⟩
      case measure => simp [intOf]; omega
    · go_wp2
      go_ret
      exact ⟨rfl, hbel⟩
end Go.Proofs.Sm

namespace Go.Proofs.Sm
open Go.RowKit

structure MemoryV where
  name : ByteArray
  action : ByteArray
  looks : List Look
  result : ResultV
instance : Rep MemoryV where
  sz := 8
  rep w S x vs := ∃ A n c B m d C p q, vs = [.string x.name, .string x.action, .slice A n c, .int .i64 x.result.code, .string x.result.text, .slice B m d, .slice C p q, .int .i64 x.result.command] ∧
    (x.name.size ≤ maxLen ∧ x.action.size ≤ maxLen ∧ x.result.text.size ≤ maxLen ∧ InInt x.result.code ∧ InInt x.result.command) ∧ (n ≤ c ∧ c ≤ maxLen ∧ m ≤ d ∧ d ≤ maxLen ∧ p ≤ q ∧ q ≤ maxLen) ∧
    (Sl w S A n x.looks ∧ Sl w S B m x.result.files ∧ Sl w S C p x.result.looks)
  len h := by obtain ⟨A, n, c, B, m, d, C, p, q, rfl, _⟩ := h; rfl
  keep hk h := by
    obtain ⟨A, n, c, B, m, d, C, p, q, h0, h1, h2, a1, a2, a3⟩ := h
    exact ⟨A, n, c, B, m, d, C, p, q, h0, h1, h2, a1.keep hk, a2.keep hk, a3.keep hk⟩
  more hs h := by
    obtain ⟨A, n, c, B, m, d, C, p, q, h0, h1, h2, a1, a2, a3⟩ := h
    exact ⟨A, n, c, B, m, d, C, p, q, h0, h1, h2, a1.more hs, a2.more hs, a3.more hs⟩
theorem Sl.memory {w : World} {S : Nat → Prop} {A : Option Addr} {n k : Nat} {l : List MemoryV} (h : Sl w S A n l) (hk : k < n) :
    ∃ b o x, A = some ⟨b, o, none⟩ ∧ S b ∧ l[k]? = some x ∧ ∃ A1 n1 c1 A2 n2 c2 A3 n3 c3,
      (x.name.size ≤ maxLen ∧ x.action.size ≤ maxLen ∧ x.result.text.size ≤ maxLen ∧ InInt x.result.code ∧ InInt x.result.command) ∧ (n1 ≤ c1 ∧ c1 ≤ maxLen ∧ n2 ≤ c2 ∧ c2 ≤ maxLen ∧ n3 ≤ c3 ∧ c3 ≤ maxLen) ∧
      (Sl w S A1 n1 x.looks ∧ Sl w S A2 n2 x.result.files ∧ Sl w S A3 n3 x.result.looks) ∧
      (w.cell? ⟨b, o + k * 8, none⟩ = some (.string x.name) ∧ w.cell? ⟨b, o + k * 8 + 1, none⟩ = some (.string x.action) ∧ w.cell? ⟨b, o + k * 8 + 2, none⟩ = some (.slice A1 n1 c1) ∧ w.cell? ⟨b, o + k * 8 + 3, none⟩ = some (.int .i64 x.result.code) ∧
        w.cell? ⟨b, o + k * 8 + 4, none⟩ = some (.string x.result.text) ∧ w.cell? ⟨b, o + k * 8 + 5, none⟩ = some (.slice A2 n2 c2) ∧ w.cell? ⟨b, o + k * 8 + 6, none⟩ = some (.slice A3 n3 c3) ∧ w.cell? ⟨b, o + k * 8 + 7, none⟩ = some (.int .i64 x.result.command)) := by
  have hk' : k < l.length := by rw [h.1]; exact hk
  obtain ⟨b, o, vs, e, hb, hr, ha⟩ := h.at hk'
  obtain ⟨A1, n1, c1, A2, n2, c2, A3, n3, c3, rfl, h1, h2, h3⟩ := hr
  exact ⟨b, o, _, e, hb, List.getElem?_eq_getElem hk', A1, n1, c1, A2, n2, c2, A3, n3, c3, h1, h2, h3, ha 0 _ rfl, ha 1 _ rfl, ha 2 _ rfl, ha 3 _ rfl, ha 4 _ rfl, ha 5 _ rfl, ha 6 _ rfl, ha 7 _ rfl⟩
/-- what is wrong with what is remembered of one rule -/
def checkMemS (m : MemoryV) : Int :=
  if (isPathS m.name && isDigestS m.action) = false then 3
  else if checkLooksS m.looks ≠ 0 then checkLooksS m.looks
  else if checkResultS m.result ≠ 0 then checkResultS m.result
  else if m.result.code ≠ 0 then 11
  else if sameLooksS m.looks m.result.looks = false then 12
  else 0
def memErr (prev : Option ByteArray) (m : MemoryV) : Int := if checkMemS m ≠ 0 then checkMemS m else if notAfter prev m.name then 8 else 0
def checkMemoryS (l : List MemoryV) : Int := if 500 < (l.length : Int) then 2 else listErr memErr MemoryV.name none l
end Go.Proofs.Sm

namespace Go.Proofs.Sm
open Go.RowKit

theorem sl_cells {α : Type} [Rep α] {w : World} {S : Nat → Prop} {A : Option Addr} {n : Nat} {l : List α} (h : Sl w S A n l) (hpos : 0 < Rep.sz α) :
    ∃ rows : List (List Value), rows.length = n ∧ (∀ (i : Nat) (x : α) (r : List Value), l[i]? = some x → rows[i]? = some r → Rep.rep w S x r) ∧ rows.flatten.length = n * Rep.sz α ∧
      (0 < n → ∃ ad, A = some ad ∧ ∀ j u, rows.flatten[j]? = some u → w.cell? (ad.add j) = some u) ∧ ∀ r ∈ rows, ∃ x ∈ l, Rep.rep w S x r := by
  rcases Nat.eq_zero_or_pos n with h0 | h0
  · subst h0
    exact ⟨[], rfl, fun i x r _ hr => by simp at hr, by simp, fun h => absurd h (by omega), fun r hr => by simp at hr⟩
  · obtain ⟨b, o, rfl, hb, hc⟩ := h.2.2 h0
    have hl := h.1
    obtain ⟨rows, hlen, hp⟩ := list_of (p := fun i vs => ∃ x, l[i]? = some x ∧ Rep.rep w S x vs ∧ At w b (o + i * Rep.sz α) vs) (len := n) fun i hi => by
      obtain ⟨x, hx⟩ := at_lt (l := l) (k := i) (by omega)
      obtain ⟨vs, h1, h2⟩ := hc i x hx
      exact ⟨vs, x, hx, h1, h2⟩
    have hsz : ∀ r ∈ rows, r.length = Rep.sz α := fun r hr => by
      obtain ⟨i, hi⟩ := List.getElem?_of_mem hr
      obtain ⟨x, _, h1, _⟩ := hp i r hi
      exact Rep.len h1
    have hfl : rows.flatten.length = n * Rep.sz α := by
      rw [← hlen]
      clear hp hlen
      induction rows with
      | nil => simp
      | cons r rows ih => rw [List.flatten_cons, List.length_append, ih fun r hr => hsz r (by simp [hr]), hsz r (by simp), List.length_cons, Nat.succ_mul]; omega
    refine ⟨rows, hlen, fun i x r hx hr => ?_, hfl, fun _ => ⟨_, rfl, fun j u hu => ?_⟩, fun r hr => ?_⟩
    · obtain ⟨y, hy, h1, _⟩ := hp i r hr
      rw [hx] at hy
      obtain rfl := Option.some.inj hy
      exact h1
    · have hj : j < n * Rep.sz α := by rw [← hfl]; exact (List.getElem?_eq_some_iff.1 hu).1
      have hi : j / Rep.sz α < n := Nat.div_lt_of_lt_mul (by rw [Nat.mul_comm]; exact hj)
      have hr : rows[j / Rep.sz α]? = some (rows[j / Rep.sz α]'(by omega)) := List.getElem?_eq_getElem (by omega)
      obtain ⟨y, _, _, h2⟩ := hp _ _ hr
      have hjm : j % Rep.sz α < Rep.sz α := Nat.mod_lt _ hpos
      have hdm : j / Rep.sz α * Rep.sz α + j % Rep.sz α = j := by rw [Nat.mul_comm]; exact Nat.div_add_mod j _
      have hf := flatten_at (j := j % Rep.sz α) hsz hr hjm
      rw [hdm] at hf
      rw [hf] at hu
      have h3 := h2 _ _ hu
      rw [addr_add, ← h3]
      congr 2
      omega
    · obtain ⟨i, hi⟩ := List.getElem?_of_mem hr
      obtain ⟨x, hx, h1, _⟩ := hp i r hi
      exact ⟨x, List.mem_of_getElem? hx, h1⟩
theorem rowK_of {α : Type} [Rep α] {w w' : World} {B : Nat} {e : TypeId} {v : Value} {l : List α} {rows : List (List Value)} {S : Nat → Prop} (hS : ∀ k, S k → k < w.heap.size) (hb : Below w.heap.size w w') (hl : rows.length = l.length)
    (hrep : ∀ (i : Nat) (x : α) (r : List Value), l[i]? = some x → rows[i]? = some r → Rep.rep w S x r) (hown : w'.ownsRow B e (Rep.sz α) v l.length rows.flatten) : RowK w' B e S v l :=
  ⟨fun k hk => Nat.lt_of_lt_of_le (hS k hk) hb.size, rows, hl, hown, fun i x r hx hr => Rep.keep (fun k hk => hb.block k (hS k hk)) (hrep i x r hx hr)⟩
theorem cl_look_info : (Tryz.prog.info? 102).map (fun i => (i.zero, i.size, i.bytes)) = some (some (.agg #[.string ⟨#[]⟩, .string ⟨#[]⟩, .bool false]), 3, 40) := by kernel_rfl
theorem look_one {w : World} {S : Nat → Prop} {x : Look} {r : List Value} (h : Rep.rep w S x r) : ∀ u ∈ r, u.oneCell' = true := by
  obtain ⟨rfl, _⟩ := h
  intro u hu
  simp only [List.mem_cons, List.not_mem_nil, or_false] at hu
  rcases hu with rfl | rfl | rfl <;> rfl
set_option maxRecDepth 100000 in
theorem clone_look (A : Option Addr) (n c : Nat) (l : List Look) (w : World) (S : Nat → Prop) (hS : ∀ k, S k → k < w.heap.size) (hsl : Sl w S A n l) (hn : n ≤ 100000000) :
    Calls Tryz.prog 62 #[.slice A n c] w fun e w' => ∃ v, e = .returned v ∧ RowK w' w.heap.size 102 S v l ∧ Below w.heap.size w w' := by
  obtain ⟨i0, hi0, hz0, hz1, hz2⟩ := info_parts cl_look_info
  have hm : n ≤ 9223372036854775807 := by omega
  have HL := Lib.hid hsl.1
  have nil1 : ∀ (w : World) (a : Option Addr) (n c n' c' : Nat), (binOp .eql 63 (.slice a n c) (.slice none n' c')).run Tryz.prog w = .ok (.bool a.isNone) w := fun w a n c n' c' => Lib.run_eql_slice_nil w _ _ a n c n' c' Tryz.underlying63
  rcases A with _ | ad
  · have h0 : l = [] := by
      rcases Nat.eq_zero_or_pos n with h0 | h0
      · subst h0; exact List.eq_nil_of_length_eq_zero hsl.1
      · obtain ⟨_, _, h1, _⟩ := hsl.2.2 h0; cases h1
    subst h0
    go_enter Tryz.func62, Tryz.ntmps62
    go_wp2
    go_ret
    exact ⟨_, rfl, RowK.nil.more (fun _ h => h.elim) hS, Below.refl _ _⟩
  · obtain ⟨rows, hr1, hr2, hr3, hr4, hr5⟩ := sl_cells hsl (by show 0 < 3; decide)
    have HR2 := Lib.hid hr2
    have h1 : ∀ u ∈ rows.flatten, u.oneCell' = true := fun u hu => by
      obtain ⟨r, hr, hur⟩ := List.mem_flatten.1 hu
      obtain ⟨x, _, hx⟩ := hr5 r hr
      exact look_one hx u hur
    have H1 := Lib.hid h1
    have HX := Lib.hid (fun o => show 0 < n → ∃ a, some ad = some a ∧ ∀ j u, rows.flatten[j]? = some u → (w.alloc o).cell? (a.add j) = some u from fun h => by
      obtain ⟨a, ha, hc⟩ := hr4 h
      refine ⟨a, ha, fun j u hu => ?_⟩
      have h2 := hc j u hu
      have h3 := World.block_lt_of_cell? w _ h2
      exact (World.cell?_of_block ((fr_alloc (fr_refl w) o).block _ h3)).trans h2)
    have hown : (w.alloc (.cells #[] 102)).ownsRow w.heap.size 102 3 (.slice (some ⟨w.heap.size, 0, none⟩) 0 0) 0 [] := World.ownsRow_lit w #[] 0 (Nat.le_refl _) (Nat.zero_le _) (by simp)
    have H3 := Lib.hid hr3
    have HR1 := Lib.hid hr1
    clear hr1 hr2 hr3 hr4 hr5 h1
    go_enter Tryz.func62, Tryz.ntmps62
    go_wp2_with (at_builtin; refine wpList_append_src rfl _ _ 63 rfl w.heap.size 102 i0 _ 3 40 Tryz.underlying63 hi0 hz0 hz1 hz2 rfl (by decide) _ 0 _ rfl hown (some ad) n c rows.flatten rfl H3.out (HX.out _) H1.out ?c3 ?c4 ?c5 ?_)
    case c3 => unfold maxLen; omega
    case c4 => omega
    case c5 => exact (fr_alloc (fr_refl w) _).size
    intro v' w5 hown5 hg5
    have hb5 := (fr_alloc (fr_refl w) (.cells #[] 102)).grown hg5 (fr_alloc (fr_refl w) _).size (fun k hk => by
      have : w.heap.size = k := by simpa [Value.ownBlock] using hk
      omega)
    have HV := Lib.hid (rowK_of hS hb5 (by rw [HR1.out, HL.out]) HR2.out (by rw [HL.out]; exact hown5))
    clear hown5 hg5
    go_wp2
    go_ret
    exact ⟨_, rfl, HV.out, hb5⟩
theorem cl_byte_info : (Tryz.prog.info? 5).map (fun i => (i.zero, i.size, i.bytes)) = some (some (.int .u8 0), 1, 1) := by kernel_rfl
theorem byte_one {w : World} {S : Nat → Prop} {x : UInt8} {r : List Value} (h : Rep.rep w S x r) : ∀ u ∈ r, u.oneCell' = true := by
  obtain rfl := h
  intro u hu
  simp only [List.mem_cons, List.not_mem_nil, or_false] at hu
  subst hu; rfl
set_option maxRecDepth 100000 in
theorem clone_byte (A : Option Addr) (n c : Nat) (l : List UInt8) (w : World) (S : Nat → Prop) (hS : ∀ k, S k → k < w.heap.size) (hsl : Sl w S A n l) (hn : n ≤ 100000000) :
    Calls Tryz.prog 140 #[.slice A n c] w fun e w' => ∃ v, e = .returned v ∧ RowK w' w.heap.size 5 S v l ∧ Below w.heap.size w w' := by
  obtain ⟨i0, hi0, hz0, hz1, hz2⟩ := info_parts cl_byte_info
  have hm : n ≤ 9223372036854775807 := by omega
  have HL := Lib.hid hsl.1
  have nil1 : ∀ (w : World) (a : Option Addr) (n c n' c' : Nat), (binOp .eql 112 (.slice a n c) (.slice none n' c')).run Tryz.prog w = .ok (.bool a.isNone) w := fun w a n c n' c' => Lib.run_eql_slice_nil w _ _ a n c n' c' Tryz.underlying112
  rcases A with _ | ad
  · have h0 : l = [] := by
      rcases Nat.eq_zero_or_pos n with h0 | h0
      · subst h0; exact List.eq_nil_of_length_eq_zero hsl.1
      · obtain ⟨_, _, h1, _⟩ := hsl.2.2 h0; cases h1
    subst h0
    go_enter Tryz.func140, Tryz.ntmps140
    go_wp2
    go_ret
    exact ⟨_, rfl, RowK.nil.more (fun _ h => h.elim) hS, Below.refl _ _⟩
  · obtain ⟨rows, hr1, hr2, hr3, hr4, hr5⟩ := sl_cells hsl (by show 0 < 1; decide)
    have HR2 := Lib.hid hr2
    have h1 : ∀ u ∈ rows.flatten, u.oneCell' = true := fun u hu => by
      obtain ⟨r, hr, hur⟩ := List.mem_flatten.1 hu
      obtain ⟨x, _, hx⟩ := hr5 r hr
      exact byte_one hx u hur
    have H1 := Lib.hid h1
    have HX := Lib.hid (fun o => show 0 < n → ∃ a, some ad = some a ∧ ∀ j u, rows.flatten[j]? = some u → (w.alloc o).cell? (a.add j) = some u from fun h => by
      obtain ⟨a, ha, hc⟩ := hr4 h
      refine ⟨a, ha, fun j u hu => ?_⟩
      have h2 := hc j u hu
      have h3 := World.block_lt_of_cell? w _ h2
      exact (World.cell?_of_block ((fr_alloc (fr_refl w) o).block _ h3)).trans h2)
    have hown : (w.alloc (.cells #[] 5)).ownsRow w.heap.size 5 1 (.slice (some ⟨w.heap.size, 0, none⟩) 0 0) 0 [] := World.ownsRow_lit w #[] 0 (Nat.le_refl _) (Nat.zero_le _) (by simp)
    have H3 := Lib.hid hr3
    have HR1 := Lib.hid hr1
    clear hr1 hr2 hr3 hr4 hr5 h1
    go_enter Tryz.func140, Tryz.ntmps140
    go_wp2_with (at_builtin; refine wpList_append_src rfl _ _ 112 rfl w.heap.size 5 i0 _ 1 1 Tryz.underlying112 hi0 hz0 hz1 hz2 rfl (by decide) _ 0 _ rfl hown (some ad) n c rows.flatten rfl H3.out (HX.out _) H1.out ?c3 ?c4 ?c5 ?_)
    case c3 => unfold maxLen; omega
    case c4 => omega
    case c5 => exact (fr_alloc (fr_refl w) _).size
    intro v' w5 hown5 hg5
    have hb5 := (fr_alloc (fr_refl w) (.cells #[] 5)).grown hg5 (fr_alloc (fr_refl w) _).size (fun k hk => by
      have : w.heap.size = k := by simpa [Value.ownBlock] using hk
      omega)
    have HV := Lib.hid (rowK_of hS hb5 (by rw [HR1.out, HL.out]) HR2.out (by rw [HL.out]; exact hown5))
    clear hown5 hg5
    go_wp2
    go_ret
    exact ⟨_, rfl, HV.out, hb5⟩
theorem cl_file_info : (Tryz.prog.info? 151).map (fun i => (i.zero, i.size, i.bytes)) = some (some (.agg #[.string ⟨#[]⟩, .bool false, .slice none 0 0]), 3, 48) := by kernel_rfl
theorem file_one {w : World} {S : Nat → Prop} {x : FileV} {r : List Value} (h : Rep.rep w S x r) : ∀ u ∈ r, u.oneCell' = true := by
  obtain ⟨_, A, n, c, rfl, _⟩ := h
  intro u hu
  simp only [List.mem_cons, List.not_mem_nil, or_false] at hu
  rcases hu with rfl | rfl | rfl <;> rfl
set_option maxRecDepth 100000 in
theorem clone_file (A : Option Addr) (n c : Nat) (l : List FileV) (w : World) (S : Nat → Prop) (hS : ∀ k, S k → k < w.heap.size) (hsl : Sl w S A n l) (hn : n ≤ 100000000) :
    Calls Tryz.prog 139 #[.slice A n c] w fun e w' => ∃ v, e = .returned v ∧ RowK w' w.heap.size 151 S v l ∧ Below w.heap.size w w' := by
  obtain ⟨i0, hi0, hz0, hz1, hz2⟩ := info_parts cl_file_info
  have hm : n ≤ 9223372036854775807 := by omega
  have HL := Lib.hid hsl.1
  have nil1 : ∀ (w : World) (a : Option Addr) (n c n' c' : Nat), (binOp .eql 64 (.slice a n c) (.slice none n' c')).run Tryz.prog w = .ok (.bool a.isNone) w := fun w a n c n' c' => Lib.run_eql_slice_nil w _ _ a n c n' c' Tryz.underlying64
  rcases A with _ | ad
  · have h0 : l = [] := by
      rcases Nat.eq_zero_or_pos n with h0 | h0
      · subst h0; exact List.eq_nil_of_length_eq_zero hsl.1
      · obtain ⟨_, _, h1, _⟩ := hsl.2.2 h0; cases h1
    subst h0
    go_enter Tryz.func139, Tryz.ntmps139
    go_wp2
    go_ret
    exact ⟨_, rfl, RowK.nil.more (fun _ h => h.elim) hS, Below.refl _ _⟩
  · obtain ⟨rows, hr1, hr2, hr3, hr4, hr5⟩ := sl_cells hsl (by show 0 < 3; decide)
    have HR2 := Lib.hid hr2
    have h1 : ∀ u ∈ rows.flatten, u.oneCell' = true := fun u hu => by
      obtain ⟨r, hr, hur⟩ := List.mem_flatten.1 hu
      obtain ⟨x, _, hx⟩ := hr5 r hr
      exact file_one hx u hur
    have H1 := Lib.hid h1
    have HX := Lib.hid (fun o => show 0 < n → ∃ a, some ad = some a ∧ ∀ j u, rows.flatten[j]? = some u → (w.alloc o).cell? (a.add j) = some u from fun h => by
      obtain ⟨a, ha, hc⟩ := hr4 h
      refine ⟨a, ha, fun j u hu => ?_⟩
      have h2 := hc j u hu
      have h3 := World.block_lt_of_cell? w _ h2
      exact (World.cell?_of_block ((fr_alloc (fr_refl w) o).block _ h3)).trans h2)
    have hown : (w.alloc (.cells #[] 151)).ownsRow w.heap.size 151 3 (.slice (some ⟨w.heap.size, 0, none⟩) 0 0) 0 [] := World.ownsRow_lit w #[] 0 (Nat.le_refl _) (Nat.zero_le _) (by simp)
    have H3 := Lib.hid hr3
    have HR1 := Lib.hid hr1
    clear hr1 hr2 hr3 hr4 hr5 h1
    go_enter Tryz.func139, Tryz.ntmps139
    go_wp2_with (at_builtin; refine wpList_append_src rfl _ _ 64 rfl w.heap.size 151 i0 _ 3 48 Tryz.underlying64 hi0 hz0 hz1 hz2 rfl (by decide) _ 0 _ rfl hown (some ad) n c rows.flatten rfl H3.out (HX.out _) H1.out ?c3 ?c4 ?c5 ?_)
    case c3 => unfold maxLen; omega
    case c4 => omega
    case c5 => exact (fr_alloc (fr_refl w) _).size
    intro v' w5 hown5 hg5
    have hb5 := (fr_alloc (fr_refl w) (.cells #[] 151)).grown hg5 (fr_alloc (fr_refl w) _).size (fun k hk => by
      have : w.heap.size = k := by simpa [Value.ownBlock] using hk
      omega)
    have HV := Lib.hid (rowK_of hS hb5 (by rw [HR1.out, HL.out]) HR2.out (by rw [HL.out]; exact hown5))
    clear hown5 hg5
    go_wp2
    go_ret
    exact ⟨_, rfl, HV.out, hb5⟩
theorem cl_memory_info : (Tryz.prog.info? 68).map (fun i => (i.zero, i.size, i.bytes)) = some (some (.agg #[.string ⟨#[]⟩, .string ⟨#[]⟩, .slice none 0 0, .int .i64 0, .string ⟨#[]⟩, .slice none 0 0, .slice none 0 0, .int .i64 0]), 8, 136) := by kernel_rfl
theorem memory_one {w : World} {S : Nat → Prop} {x : MemoryV} {r : List Value} (h : Rep.rep w S x r) : ∀ u ∈ r, u.oneCell' = true := by
  obtain ⟨A, n, c, B, m, d, C, p, q, rfl, _⟩ := h
  intro u hu
  simp only [List.mem_cons, List.not_mem_nil, or_false] at hu
  rcases hu with rfl | rfl | rfl | rfl | rfl | rfl | rfl | rfl <;> rfl
set_option maxRecDepth 100000 in
theorem clone_memory (A : Option Addr) (n c : Nat) (l : List MemoryV) (w : World) (S : Nat → Prop) (hS : ∀ k, S k → k < w.heap.size) (hsl : Sl w S A n l) (hn : n ≤ 100000000) :
    Calls Tryz.prog 61 #[.slice A n c] w fun e w' => ∃ v, e = .returned v ∧ RowK w' w.heap.size 68 S v l ∧ Below w.heap.size w w' := by
  obtain ⟨i0, hi0, hz0, hz1, hz2⟩ := info_parts cl_memory_info
  have hm : n ≤ 9223372036854775807 := by omega
  have HL := Lib.hid hsl.1
  have nil1 : ∀ (w : World) (a : Option Addr) (n c n' c' : Nat), (binOp .eql 30 (.slice a n c) (.slice none n' c')).run Tryz.prog w = .ok (.bool a.isNone) w := fun w a n c n' c' => Lib.run_eql_slice_nil w _ _ a n c n' c' Tryz.underlying30
  rcases A with _ | ad
  · have h0 : l = [] := by
      rcases Nat.eq_zero_or_pos n with h0 | h0
      · subst h0; exact List.eq_nil_of_length_eq_zero hsl.1
      · obtain ⟨_, _, h1, _⟩ := hsl.2.2 h0; cases h1
    subst h0
    go_enter Tryz.func61, Tryz.ntmps61
    go_wp2
    go_ret
    exact ⟨_, rfl, RowK.nil.more (fun _ h => h.elim) hS, Below.refl _ _⟩
  · obtain ⟨rows, hr1, hr2, hr3, hr4, hr5⟩ := sl_cells hsl (by show 0 < 8; decide)
    have HR2 := Lib.hid hr2
    have h1 : ∀ u ∈ rows.flatten, u.oneCell' = true := fun u hu => by
      obtain ⟨r, hr, hur⟩ := List.mem_flatten.1 hu
      obtain ⟨x, _, hx⟩ := hr5 r hr
      exact memory_one hx u hur
    have H1 := Lib.hid h1
    have HX := Lib.hid (fun o => show 0 < n → ∃ a, some ad = some a ∧ ∀ j u, rows.flatten[j]? = some u → (w.alloc o).cell? (a.add j) = some u from fun h => by
      obtain ⟨a, ha, hc⟩ := hr4 h
      refine ⟨a, ha, fun j u hu => ?_⟩
      have h2 := hc j u hu
      have h3 := World.block_lt_of_cell? w _ h2
      exact (World.cell?_of_block ((fr_alloc (fr_refl w) o).block _ h3)).trans h2)
    have hown : (w.alloc (.cells #[] 68)).ownsRow w.heap.size 68 8 (.slice (some ⟨w.heap.size, 0, none⟩) 0 0) 0 [] := World.ownsRow_lit w #[] 0 (Nat.le_refl _) (Nat.zero_le _) (by simp)
    have H3 := Lib.hid hr3
    have HR1 := Lib.hid hr1
    clear hr1 hr2 hr3 hr4 hr5 h1
    go_enter Tryz.func61, Tryz.ntmps61
    go_wp2_with (at_builtin; refine wpList_append_src rfl _ _ 30 rfl w.heap.size 68 i0 _ 8 136 Tryz.underlying30 hi0 hz0 hz1 hz2 rfl (by decide) _ 0 _ rfl hown (some ad) n c rows.flatten rfl H3.out (HX.out _) H1.out ?c3 ?c4 ?c5 ?_)
    case c3 => unfold maxLen; omega
    case c4 => omega
    case c5 => exact (fr_alloc (fr_refl w) _).size
    intro v' w5 hown5 hg5
    have hb5 := (fr_alloc (fr_refl w) (.cells #[] 68)).grown hg5 (fr_alloc (fr_refl w) _).size (fun k hk => by
      have : w.heap.size = k := by simpa [Value.ownBlock] using hk
      omega)
    have HV := Lib.hid (rowK_of hS hb5 (by rw [HR1.out, HL.out]) HR2.out (by rw [HL.out]; exact hown5))
    clear hown5 hg5
    go_wp2
    go_ret
    exact ⟨_, rfl, HV.out, hb5⟩
end Go.Proofs.Sm

namespace Go.Proofs.Sm
open Go.RowKit

theorem flatten_set {sz : Nat} {u : Value} : ∀ {rows : List (List Value)} {i j : Nat} {r : List Value}, (∀ r ∈ rows, r.length = sz) → rows[i]? = some r → j < sz → (rows.set i (r.set j u)).flatten = rows.flatten.set (i * sz + j) u
  | [], i, j, r, _, h, _ => by simp at h
  | a :: rows, 0, j, r, hl, h, hj => by
    obtain rfl : a = r := by simpa using h
    have ha := hl a (by simp)
    rw [List.set_cons_zero, List.flatten_cons, List.flatten_cons, Nat.zero_mul, Nat.zero_add, List.set_append_left _ _ (by rw [ha]; exact hj)]
  | a :: rows, i + 1, j, r, hl, h, hj => by
    have h' : rows[i]? = some r := by simpa using h
    have ha := hl a (by simp)
    rw [List.set_cons_succ, List.flatten_cons, List.flatten_cons, flatten_set (fun r hr => hl r (by simp [hr])) h' hj, List.set_append_right _ _ (by rw [ha, Nat.succ_mul]; omega)]
    congr 2
    rw [ha, Nat.succ_mul]
    omega
section
variable {α : Type} [Rep α] {w w' : World} {B : Nat} {e : TypeId} {K : Nat → Prop} {v : Value} {l : List α}
theorem RowK.setElem {g n cap i j : Nat} {x : α} {u : Value} (h : RowK w B e K (.slice (some ⟨g, 0, none⟩) n cap) l) (hg : ¬ K g) (hi : l[i]? = some x) (hj : j < Rep.sz α)
    (hnew : ∀ r, Rep.rep w K x r → Rep.rep w K x (r.set j u)) : RowK (w.setCell ⟨g, i * Rep.sz α + j, none⟩ u) B e K (.slice (some ⟨g, 0, none⟩) n cap) l := by
  obtain ⟨_, _, hv⟩ := h.form
  cases hv
  obtain ⟨hk, rows, hr, hown, hrep⟩ := h
  have hil : i < l.length := (List.getElem?_eq_some_iff.1 hi).1
  have hlens : ∀ r ∈ rows, r.length = Rep.sz α := by
    intro r hr2
    obtain ⟨i, hi⟩ := List.getElem?_of_mem hr2
    have hi2 := (List.getElem?_eq_some_iff.1 hi).1
    exact Rep.len (hrep i l[i] r (List.getElem?_eq_getElem (by omega)) hi)
  obtain ⟨r, hri⟩ := at_lt (l := rows) (k := i) (by omega)
  have hkeep : ∀ k, K k → (w.setCell ⟨g, i * Rep.sz α + j, none⟩ u).heap[k]? = w.heap[k]? := fun k hh => heap_setCell_other w _ k u (by rintro rfl; exact hg hh)
  refine ⟨fun k hh => by simpa using hk k hh, rows.set i (r.set j u), by simp [hr], ?_, fun i' x' r' hx' hr' => Rep.keep hkeep ?_⟩
  · rw [flatten_set hlens hri hj]
    exact (hown.stored _ u).1
  · rw [List.getElem?_set] at hr'
    split at hr'
    · rename_i e1
      subst e1
      rw [if_pos (by omega)] at hr'
      obtain rfl := Option.some.inj hr'
      rw [hi] at hx'
      obtain rfl := Option.some.inj hx'
      exact hnew r (hrep i x r hi hri)
    · exact hrep i' x' r' hx' hr'
/-- what its elements are does not lead anywhere -/
theorem RowK.flat (hf : ∀ {w : World} {S S' : Nat → Prop} {x : α} {vs : List Value}, Rep.rep w S x vs → Rep.rep w S' x vs) (h : RowK w B e K v l) : RowK w B e (fun _ => False) v l := by
  obtain ⟨_, rows, hr, hown, hrep⟩ := h
  exact ⟨fun _ h => h.elim, rows, hr, hown, fun i x r hx hr => hf (hrep i x r hx hr)⟩
theorem RowK.frozenAt {g n cap : Nat} (h : RowK w B e K (.slice (some ⟨g, 0, none⟩) n cap) l) (j : Nat) : w.frozen? ⟨g, j, none⟩ = false := by
  obtain ⟨_, _, hv⟩ := h.form
  cases hv
  obtain ⟨_, rows, _, hown, _⟩ := h
  exact hown.frozenAt j
/-- the cells of one element -/
theorem RowK.elem {g n cap i : Nat} {x : α} (h : RowK w B e K (.slice (some ⟨g, 0, none⟩) n cap) l) (hi : l[i]? = some x) : ∃ r, Rep.rep w K x r ∧ ∀ j u, r[j]? = some u → w.cell? ⟨g, i * Rep.sz α + j, none⟩ = some u := by
  obtain ⟨_, _, hv⟩ := h.form
  cases hv
  obtain ⟨_, rows, hr, hown, hrep⟩ := h
  have hil : i < l.length := (List.getElem?_eq_some_iff.1 hi).1
  have hlens : ∀ r ∈ rows, r.length = Rep.sz α := by
    intro r hr2
    obtain ⟨i, hi⟩ := List.getElem?_of_mem hr2
    have hi2 := (List.getElem?_eq_some_iff.1 hi).1
    exact Rep.len (hrep i l[i] r (List.getElem?_eq_getElem (by omega)) hi)
  obtain ⟨r, hri⟩ := at_lt (l := rows) (k := i) (by omega)
  refine ⟨r, hrep i x r hi hri, fun j u hu => ?_⟩
  have hj : j < Rep.sz α := by
    have := (List.getElem?_eq_some_iff.1 hu).1
    rw [hlens r (List.mem_of_getElem? hri)] at this
    exact this
  have h3 := hown.cells rfl (i * Rep.sz α + j) u (by rw [flatten_at hlens hri hj]; exact hu)
  rw [addr_add, Nat.zero_add] at h3
  exact h3
end
theorem flat_byte {w : World} {S S' : Nat → Prop} {x : UInt8} {vs : List Value} (h : Rep.rep w S x vs) : Rep.rep w S' x vs := h
end Go.Proofs.Sm
