/- Walks: rules (reference): who needs whom. -/
import Derived.Test.YtadokhhgljddkaaGreatDoorH19x5
import Derived.Deep.AppendLies
import Derived.OwnWalk
namespace Go.Proofs.Sm
open Go.RowKit

def Kind (ty : TypeId) (w : World) (k : Nat) : Prop := ∃ cs fz, w.heap[k]? = some (.cells cs ty fz)
theorem Kind.lt {ty : TypeId} {w : World} {k : Nat} (h : Kind ty w k) : k < w.heap.size := by
  obtain ⟨cs, fz, h⟩ := h
  exact (Array.getElem?_eq_some_iff.1 h).1
theorem Kind.of_keep {ty : TypeId} {w w' : World} (hk : ∀ k, Kind ty w k → w'.heap[k]? = w.heap[k]?) : ∀ k, Kind ty w k → Kind ty w' k := by
  intro k h
  obtain ⟨cs, fz, h1⟩ := h
  exact ⟨cs, fz, (hk k ⟨cs, fz, h1⟩).trans h1⟩
/-- A row of e's of the call's own that reads as a list; its elements lead to blocks of type ty. -/
def RowOwn {α : Type} [Rep α] (w : World) (B : Nat) (e ty : TypeId) (v : Value) (l : List α) : Prop :=
  ∃ rows : List (List Value), rows.length = l.length ∧ w.ownsRow B e (Rep.sz α) v l.length rows.flatten ∧ ∀ (i : Nat) (x : α) (r : List Value), l[i]? = some x → rows[i]? = some r → Rep.rep w (Kind ty w) x r
section
variable {α : Type} [Rep α] {w w' : World} {B : Nat} {e ty : TypeId} {v : Value} {l : List α}
theorem RowOwn.nil : RowOwn w B e ty (.slice none 0 0) ([] : List α) := ⟨[], rfl, World.ownsRow_nil _ _ _ _, fun i x r h => by simp at h⟩
theorem ownsRow_keep {size n : Nat} {xs : List Value} (h : w.ownsRow B e size v n xs) (h2 : ∀ g, v.ownBlock = some g → w'.heap[g]? = w.heap[g]?) : w'.ownsRow B e size v n xs := by
  obtain ⟨h1, h3⟩ := h
  refine ⟨h1, ?_⟩
  rcases h3 with h3 | ⟨g, cap, cur, rfl, hb, hh, h4⟩
  · exact .inl h3
  · exact .inr ⟨g, cap, cur, rfl, hb, (h2 g rfl).trans hh, h4⟩
theorem RowOwn.keep (h : RowOwn w B e ty v l) (h1 : ∀ k, Kind ty w k → w'.heap[k]? = w.heap[k]?) (h2 : ∀ g, v.ownBlock = some g → w'.heap[g]? = w.heap[g]?) : RowOwn w' B e ty v l := by
  obtain ⟨rows, hr, hown, hrep⟩ := h
  exact ⟨rows, hr, ownsRow_keep hown h2, fun i x r hx hri => Rep.more (Kind.of_keep h1) (Rep.keep h1 (hrep i x r hx hri))⟩
theorem ownsRow_kind {size n : Nat} {xs : List Value} (h : w.ownsRow B e size v n xs) : ∀ g, v.ownBlock = some g → B ≤ g ∧ Kind e w g := by
  intro g hg
  rcases h.2 with ⟨rfl, _⟩ | ⟨g', cap, cur, rfl, hb, hh, _⟩
  · simp [Value.ownBlock] at hg
  · obtain rfl : g' = g := by simpa [Value.ownBlock] using hg
    exact ⟨hb, cur, _, hh⟩
theorem RowOwn.kind (h : RowOwn w B e ty v l) : ∀ g, v.ownBlock = some g → B ≤ g ∧ Kind e w g := by
  obtain ⟨rows, _, hown, _⟩ := h
  exact ownsRow_kind hown
theorem RowOwn.call (h : RowOwn w B e ty v l) (hb : Below w.heap.size w w') : RowOwn w' B e ty v l :=
  h.keep (fun k hk => hb.block k hk.lt) (fun g hg => hb.block g (h.kind g hg).2.lt)
theorem RowOwn.alloc (h : RowOwn w B e ty v l) (o : Obj) : RowOwn (w.alloc o) B e ty v l := h.call (fr_alloc (fr_refl w) o)
theorem kind_ne {t1 t2 : TypeId} {k1 k2 : Nat} (h1 : Kind t1 w k1) (h2 : Kind t2 w k2) (h : t1 ≠ t2) : k1 ≠ k2 := by
  rintro rfl
  obtain ⟨c1, f1, e1⟩ := h1
  obtain ⟨c2, f2, e2⟩ := h2
  rw [e1] at e2
  cases e2
  exact h rfl
theorem RowOwn.set {t : TypeId} {p : Addr} (h : RowOwn w B e ty v l) (hp : Kind t w p.block) (he : e ≠ t) (hty : ty ≠ t) (u : Value) : RowOwn (w.setCell p u) B e ty v l :=
  h.keep (fun k hk => heap_setCell_other w p k u (kind_ne hk hp hty)) (fun g hg => heap_setCell_other w p g u (kind_ne (h.kind g hg).2 hp he))
/-- another row grows -/
theorem RowOwn.other {t : TypeId} {row : Option Nat} (h : RowOwn w B e ty v l) (hg : w.grownBy w' row) (hr : ∀ g, row = some g → Kind t w g) (he : e ≠ t) (hty : ty ≠ t) : RowOwn w' B e ty v l := by
  refine h.keep (fun k hk => hg.block k hk.lt fun e2 => ?_) (fun g hg2 => hg.block g (h.kind g hg2).2.lt fun e2 => ?_)
  · exact kind_ne hk (hr k e2.symm) hty rfl
  · exact kind_ne (h.kind g hg2).2 (hr g e2.symm) he rfl
theorem RowOwn.append {rows : List (List Value)} {r : List Value} {x : α} {v' : Value} (hr : rows.length = l.length) (hown : w.ownsRow B e (Rep.sz α) v l.length rows.flatten)
    (hrep : ∀ (i : Nat) (x : α) (r : List Value), l[i]? = some x → rows[i]? = some r → Rep.rep w (Kind ty w) x r) (hx : Rep.rep w (Kind ty w) x r) (hne : ty ≠ e)
    (hg : w.grownBy w' v.ownBlock) (hown' : w'.ownsRow B e (Rep.sz α) v' (l.length + 1) (rows.flatten ++ r)) : RowOwn w' B e ty v' (l ++ [x]) := by
  have h1 : ∀ k, Kind ty w k → w'.heap[k]? = w.heap[k]? := fun k hk => hg.block k hk.lt fun e2 => kind_ne hk (ownsRow_kind hown k e2.symm).2 hne rfl
  refine ⟨rows ++ [r], by simp [hr], ?_, ?_⟩
  · rw [List.length_append, List.length_singleton, List.flatten_append]
    simpa using hown'
  · intro i y s hy hs
    refine Rep.more (Kind.of_keep h1) (Rep.keep h1 ?_)
    by_cases hi : i < l.length
    · rw [List.getElem?_append_left hi] at hy
      rw [List.getElem?_append_left (by omega)] at hs
      exact hrep i y s hy hs
    · have hi2 := (List.getElem?_eq_some_iff.1 hy).1
      rw [List.length_append, List.length_singleton] at hi2
      obtain rfl : i = l.length := by omega
      rw [List.getElem?_append_right (Nat.le_refl _)] at hy
      rw [List.getElem?_append_right (by omega), hr] at hs
      simp at hy hs
      subst hy; subst hs
      exact hx
theorem flatten_at {sz : Nat} : ∀ {rows : List (List Value)} {i j : Nat} {r : List Value}, (∀ r ∈ rows, r.length = sz) → rows[i]? = some r → j < sz → rows.flatten[i * sz + j]? = r[j]?
  | [], i, j, r, _, h, _ => by simp at h
  | a :: rows, 0, j, r, hl, h, hj => by
    obtain rfl : a = r := by simpa using h
    rw [List.flatten_cons, Nat.zero_mul, Nat.zero_add, List.getElem?_append_left (by rw [hl a (by simp)]; exact hj)]
  | a :: rows, i + 1, j, r, hl, h, hj => by
    have h' : rows[i]? = some r := by simpa using h
    have ha := hl a (by simp)
    rw [List.flatten_cons, List.getElem?_append_right (by rw [ha, Nat.succ_mul]; omega), ha, ← flatten_at (fun r hr => hl r (by simp [hr])) h' hj]
    congr 1
    rw [Nat.succ_mul]
    omega
theorem RowOwn.sl (h : RowOwn w B e ty v l) : ∃ A c, v = .slice A l.length c ∧ l.length ≤ c ∧ c ≤ maxLen ∧ Sl w (Lt w.heap.size) A l.length l := by
  obtain ⟨rows, hr, hown, hrep⟩ := h
  have hcells := fun g hg => hown.cells (g := g) hg
  have hlt := hown.lt
  have hlens : ∀ r ∈ rows, r.length = Rep.sz α := by
    intro r hr2
    obtain ⟨i, hi⟩ := List.getElem?_of_mem hr2
    have hi2 := (List.getElem?_eq_some_iff.1 hi).1
    exact Rep.len (hrep i l[i] r (List.getElem?_eq_getElem (by omega)) hi)
  rcases hown.2 with ⟨rfl, h0⟩ | ⟨g, cap, cur, rfl, hb, hh, hnc, hcm, _, _⟩
  · rw [h0]
    have hl : l = [] := List.eq_nil_of_length_eq_zero h0
    subst hl
    exact ⟨none, 0, rfl, Nat.le_refl _, Nat.zero_le _, Sl.nil⟩
  · refine ⟨some ⟨g, 0, none⟩, cap, rfl, hnc, hcm, rfl, Nat.le_trans hnc hcm, fun hn => ⟨g, 0, rfl, (hlt g rfl).2, fun i x hx => ?_⟩⟩
    have hi : i < l.length := (List.getElem?_eq_some_iff.1 hx).1
    have hri : rows[i]? = some (rows[i]'(by omega)) := List.getElem?_eq_getElem (by omega)
    refine ⟨rows[i]'(by omega), Rep.more (fun k hk => hk.lt) (hrep i x _ hx hri), fun j u hu => ?_⟩
    have hj : j < Rep.sz α := by
      have := (List.getElem?_eq_some_iff.1 hu).1
      rw [hlens _ (List.mem_of_getElem? hri)] at this
      exact this
    have h3 := hcells g rfl (i * Rep.sz α + j) u (by rw [flatten_at hlens hri hj]; exact hu)
    rw [addr_add] at h3
    rw [← h3]
    congr 2
    omega
theorem RowOwn.form (h : RowOwn w B e ty v l) : ∃ A c, v = .slice A l.length c := by
  obtain ⟨A, c, h1, _⟩ := h.sl
  exact ⟨A, c, h1⟩
theorem RowOwn.le (h : RowOwn w B e ty v l) : l.length ≤ maxLen := by
  obtain ⟨A, c, _, h1, h2, _⟩ := h.sl
  omega
end
end Go.Proofs.Sm

namespace Go.Proofs.Sm
open Go.RowKit

/-- A row of e's of the call's own that reads as a list; its elements lead to blocks in K, which are there. -/
def RowK {α : Type} [Rep α] (w : World) (B : Nat) (e : TypeId) (K : Nat → Prop) (v : Value) (l : List α) : Prop :=
  (∀ k, K k → k < w.heap.size) ∧ ∃ rows : List (List Value), rows.length = l.length ∧ w.ownsRow B e (Rep.sz α) v l.length rows.flatten ∧ ∀ (i : Nat) (x : α) (r : List Value), l[i]? = some x → rows[i]? = some r → Rep.rep w K x r
section
variable {α : Type} [Rep α] {w w' : World} {B : Nat} {e : TypeId} {K K' : Nat → Prop} {v : Value} {l : List α}
theorem RowK.nil : RowK w B e (fun _ => False) (.slice none 0 0) ([] : List α) := ⟨fun _ h => h.elim, [], rfl, World.ownsRow_nil _ _ _ _, fun i x r h => by simp at h⟩
theorem RowK.keep (h : RowK w B e K v l) (hs : w.heap.size ≤ w'.heap.size) (h1 : ∀ k, K k → w'.heap[k]? = w.heap[k]?) (h2 : ∀ g, v.ownBlock = some g → w'.heap[g]? = w.heap[g]?) : RowK w' B e K v l := by
  obtain ⟨hk, rows, hr, hown, hrep⟩ := h
  exact ⟨fun k hh => Nat.lt_of_lt_of_le (hk k hh) hs, rows, hr, ownsRow_keep hown h2, fun i x r hx hri => Rep.keep h1 (hrep i x r hx hri)⟩
theorem RowK.more (h : RowK w B e K v l) (hm : ∀ k, K k → K' k) (hk' : ∀ k, K' k → k < w.heap.size) : RowK w B e K' v l := by
  obtain ⟨_, rows, hr, hown, hrep⟩ := h
  exact ⟨hk', rows, hr, hown, fun i x r hx hri => Rep.more hm (hrep i x r hx hri)⟩
theorem RowK.kind (h : RowK w B e K v l) : ∀ g, v.ownBlock = some g → B ≤ g ∧ Kind e w g := by
  obtain ⟨_, rows, _, hown, _⟩ := h
  exact ownsRow_kind hown
theorem RowK.call (h : RowK w B e K v l) (hb : Below w.heap.size w w') : RowK w' B e K v l :=
  h.keep hb.size (fun k hk => hb.block k (h.1 k hk)) (fun g hg => hb.block g (h.kind g hg).2.lt)
/-- some block alone is another one now -/
theorem RowK.far {b : Nat} (h : RowK w B e K v l) (hg : w.grownBy w' (some b)) (h1 : ¬ K b) (h2 : v.ownBlock ≠ some b) : RowK w' B e K v l :=
  h.keep hg.size (fun k hk => hg.block k (h.1 k hk) fun e => h1 (by cases e; exact hk)) (fun g hh => hg.block g (h.kind g hh).2.lt fun e => h2 (by rw [hh, e]))
/-- another row grows -/
theorem RowK.other {row : Option Nat} (h : RowK w B e K v l) (hg : w.grownBy w' row) (h1 : ∀ g, row = some g → ¬ K g ∧ v.ownBlock ≠ some g) : RowK w' B e K v l :=
  h.keep hg.size (fun k hk => hg.block k (h.1 k hk) fun e => (h1 k e.symm).1 hk) (fun g hh => hg.block g (h.kind g hh).2.lt fun e => (h1 g e.symm).2 hh)
theorem RowK.append {rows : List (List Value)} {r : List Value} {x : α} {v' : Value} (hk : ∀ k, K k → k < w.heap.size) (hr : rows.length = l.length)
    (hrep : ∀ (i : Nat) (x : α) (r : List Value), l[i]? = some x → rows[i]? = some r → Rep.rep w K x r) (hx : Rep.rep w K x r) (hne : ∀ g, v.ownBlock = some g → ¬ K g)
    (hg : w.grownBy w' v.ownBlock) (hown' : w'.ownsRow B e (Rep.sz α) v' (l.length + 1) (rows.flatten ++ r)) : RowK w' B e K v' (l ++ [x]) := by
  have h1 : ∀ k, K k → w'.heap[k]? = w.heap[k]? := fun k hh => hg.block k (hk k hh) fun e2 => hne k e2.symm hh
  refine ⟨fun k hh => Nat.lt_of_lt_of_le (hk k hh) hg.size, rows ++ [r], by simp [hr], ?_, ?_⟩
  · rw [List.length_append, List.length_singleton, List.flatten_append]
    simpa using hown'
  · intro i y s hy hs
    refine Rep.keep h1 ?_
    by_cases hi : i < l.length
    · rw [List.getElem?_append_left hi] at hy
      rw [List.getElem?_append_left (by omega)] at hs
      exact hrep i y s hy hs
    · have hi2 := (List.getElem?_eq_some_iff.1 hy).1
      rw [List.length_append, List.length_singleton] at hi2
      obtain rfl : i = l.length := by omega
      rw [List.getElem?_append_right (Nat.le_refl _)] at hy
      rw [List.getElem?_append_right (by omega), hr] at hs
      simp at hy hs
      subst hy; subst hs
      exact hx
theorem RowK.sl (h : RowK w B e K v l) : ∃ A c, v = .slice A l.length c ∧ l.length ≤ c ∧ c ≤ maxLen ∧ Sl w (Lt w.heap.size) A l.length l := by
  obtain ⟨hk, rows, hr, hown, hrep⟩ := h
  have hcells := fun g hg => hown.cells (g := g) hg
  have hlt := hown.lt
  have hlens : ∀ r ∈ rows, r.length = Rep.sz α := by
    intro r hr2
    obtain ⟨i, hi⟩ := List.getElem?_of_mem hr2
    have hi2 := (List.getElem?_eq_some_iff.1 hi).1
    exact Rep.len (hrep i l[i] r (List.getElem?_eq_getElem (by omega)) hi)
  rcases hown.2 with ⟨rfl, h0⟩ | ⟨g, cap, cur, rfl, hb, hh, hnc, hcm, _, _⟩
  · rw [h0]
    have hl : l = [] := List.eq_nil_of_length_eq_zero h0
    subst hl
    exact ⟨none, 0, rfl, Nat.le_refl _, Nat.zero_le _, Sl.nil⟩
  · refine ⟨some ⟨g, 0, none⟩, cap, rfl, hnc, hcm, rfl, Nat.le_trans hnc hcm, fun hn => ⟨g, 0, rfl, (hlt g rfl).2, fun i x hx => ?_⟩⟩
    have hi : i < l.length := (List.getElem?_eq_some_iff.1 hx).1
    have hri : rows[i]? = some (rows[i]'(by omega)) := List.getElem?_eq_getElem (by omega)
    refine ⟨rows[i]'(by omega), Rep.more (fun k hh => hk k hh) (hrep i x _ hx hri), fun j u hu => ?_⟩
    have hj : j < Rep.sz α := by
      have := (List.getElem?_eq_some_iff.1 hu).1
      rw [hlens _ (List.mem_of_getElem? hri)] at this
      exact this
    have h3 := hcells g rfl (i * Rep.sz α + j) u (by rw [flatten_at hlens hri hj]; exact hu)
    rw [addr_add] at h3
    rw [← h3]
    congr 2
    omega
theorem RowK.form (h : RowK w B e K v l) : ∃ A c, v = .slice A l.length c := by
  obtain ⟨A, c, h1, _⟩ := h.sl
  exact ⟨A, c, h1⟩
end
end Go.Proofs.Sm

namespace Go.Proofs.Sm
open Go.RowKit

instance : Rep Nat where
  sz := 1
  rep _ _ x vs := vs = [.int .i64 (x : Int)] ∧ x ≤ maxLen
  len h := by rw [h.1]; rfl
  keep _ h := h
  more _ h := h
/-- block g holds these values -/
def Arr (w : World) (g : Nat) (ty : TypeId) (vs : List Value) : Prop := w.heap[g]? = some (.cells vs.toArray ty (0, 0))
section
variable {w w' : World} {g : Nat} {ty : TypeId} {vs : List Value}
theorem Arr.lt (h : Arr w g ty vs) : g < w.heap.size := (Array.getElem?_eq_some_iff.1 h).1
theorem Arr.keep (h : Arr w g ty vs) (hk : w'.heap[g]? = w.heap[g]?) : Arr w' g ty vs := hk.trans h
theorem Arr.call (h : Arr w g ty vs) (hb : Below w.heap.size w w') : Arr w' g ty vs := h.keep (hb.block g h.lt)
theorem Arr.grown {row : Option Nat} (h : Arr w g ty vs) (hg : w.grownBy w' row) (hne : row ≠ some g) : Arr w' g ty vs := h.keep (hg.block g h.lt fun e => hne e.symm)
theorem Arr.other (h : Arr w g ty vs) {p : Addr} (hp : g ≠ p.block) (u : Value) : Arr (w.setCell p u) g ty vs := h.keep (heap_setCell_other w p g u hp)
theorem Arr.cell (h : Arr w g ty vs) {i : Nat} {v : Value} (hi : vs[i]? = some v) : w.cell? ⟨g, i, none⟩ = some v := by
  rw [World.cell?, h]
  simpa using hi
theorem Arr.frozen (h : Arr w g ty vs) (i : Nat) : w.frozen? ⟨g, i, none⟩ = false := frozen_of_row w g i _ _ h
theorem Arr.set (h : Arr w g ty vs) (i : Nat) (v : Value) : Arr (w.setCell ⟨g, i, none⟩ v) g ty (vs.set i v) := by
  have := heap_setCell_same w g i _ _ v h
  rw [Arr, this]
  simp
theorem Arr.of_full {base n : Nat} {xs : List Value} (h : w.ownsRow base ty 1 (.slice (some ⟨g, 0, none⟩) n n) n xs) : Arr w g ty xs := by
  obtain ⟨hl, h⟩ := h
  rcases h with ⟨h, _⟩ | ⟨g', cap, cur, h, _, hh, _, _, hs, ht⟩
  · cases h
  · cases h
    rw [Arr, hh]
    rw [List.take_of_length_le (by simp [hs])] at ht
    rw [← ht]
theorem Arr.sl {α : Type} [Rep α] {l : List α} (h : Arr w g ty vs) (hsz : Rep.sz α = 1) (hl : vs.length = l.length) (hm : l.length ≤ maxLen) (hr : ∀ (i : Nat) (x : α) (v : Value), l[i]? = some x → vs[i]? = some v → Rep.rep w (Lt w.heap.size) x [v]) :
    Sl w (Lt w.heap.size) (some ⟨g, 0, none⟩) l.length l := by
  refine ⟨rfl, hm, fun _ => ⟨g, 0, rfl, h.lt, fun i x hx => ?_⟩⟩
  have hi : i < vs.length := by rw [hl]; exact (List.getElem?_eq_some_iff.1 hx).1
  refine ⟨[vs[i]], hr i x _ hx (List.getElem?_eq_getElem hi), fun j v hv => ?_⟩
  obtain rfl : j = 0 := by
    have := (List.getElem?_eq_some_iff.1 hv).1
    simp at this; exact this
  cases hv
  rw [hsz, Nat.zero_add, Nat.mul_one, Nat.add_zero]
  exact h.cell (List.getElem?_eq_getElem hi)
end
/-- a block of rows of numbers of the call's own, each apart from all others; their blocks are in S -/
structure Grid (w : World) (B : Nat) (S : Nat → Prop) (g : Nat) (tS tI : TypeId) (rows : List (List Nat)) : Prop where
  low : g < B
  vals : ∃ vs : List Value, Arr w g tS vs ∧ vs.length = rows.length ∧ (∀ (i : Nat) v r, vs[i]? = some v → rows[i]? = some r → RowK w B tI (fun _ => False) v r ∧ ∀ b, v.ownBlock = some b → S b) ∧
    ∀ (i j : Nat) v v' b, i ≠ j → vs[i]? = some v → vs[j]? = some v' → v.ownBlock = some b → v'.ownBlock ≠ some b
section
variable {w w' : World} {B g : Nat} {S S' : Nat → Prop} {tS tI : TypeId} {rows : List (List Nat)}
theorem Grid.lt (h : Grid w B S g tS tI rows) : g < w.heap.size := by
  obtain ⟨vs, ha, _⟩ := h.vals
  exact ha.lt
theorem Grid.keep (h : Grid w B S g tS tI rows) (hs : w.heap.size ≤ w'.heap.size) (hg : w'.heap[g]? = w.heap[g]?) (hk : ∀ k, B ≤ k → S k → Kind tI w k → w'.heap[k]? = w.heap[k]?) : Grid w' B S g tS tI rows := by
  obtain ⟨vs, ha, hl, hr, hd⟩ := h.vals
  refine ⟨h.low, vs, ha.keep hg, hl, fun i v r hv hr' => ?_, hd⟩
  obtain ⟨h1, h2⟩ := hr i v r hv hr'
  exact ⟨h1.keep hs (fun _ hh => hh.elim) fun b hb => hk b (h1.kind b hb).1 (h2 b hb) (h1.kind b hb).2, h2⟩
theorem Grid.call (h : Grid w B S g tS tI rows) (hb : Below w.heap.size w w') : Grid w' B S g tS tI rows := h.keep hb.size (hb.block g h.lt) fun k _ _ hk => hb.block k hk.lt
theorem Grid.other (h : Grid w B S g tS tI rows) {p : Addr} (hp : g ≠ p.block) (hp2 : p.block < B ∨ ¬ S p.block) (u : Value) : Grid (w.setCell p u) B S g tS tI rows :=
  h.keep (by simp) (heap_setCell_other w p g u hp) fun k h1 h2 _ => heap_setCell_other w p k u (by rintro rfl; rcases hp2 with hp2 | hp2; omega; exact hp2 h2)
theorem Grid.grown {row : Option Nat} (h : Grid w B S g tS tI rows) (hg : w.grownBy w' row) (hr : ∀ b, row = some b → B ≤ b ∧ ¬ S b) : Grid w' B S g tS tI rows :=
  h.keep hg.size (hg.block g h.lt fun e => by have := (hr g e.symm).1; have := h.low; omega) fun k _ h2 hk => hg.block k hk.lt fun e => (hr k e.symm).2 h2
theorem Grid.more (h : Grid w B S g tS tI rows) (hs : ∀ k, S k → k < w.heap.size → S' k) : Grid w B S' g tS tI rows := by
  obtain ⟨vs, ha, hl, hr, hd⟩ := h.vals
  exact ⟨h.low, vs, ha, hl, fun i v r hv hr' => ⟨(hr i v r hv hr').1, fun b hb => hs b ((hr i v r hv hr').2 b hb) ((hr i v r hv hr').1.kind b hb).2.lt⟩, hd⟩
theorem Grid.made {n : Nat} (ha : Arr w g tS (List.replicate n (.slice none 0 0))) (hg : g < B) : Grid w B S g tS tI (List.replicate n []) := by
  refine ⟨hg, _, ha, by simp, fun i v r hv hr => ?_, fun i j v v' b _ hv _ hb => ?_⟩
  · rw [List.getElem?_replicate] at hv hr
    split at hv
    · rename_i hi
      rw [if_pos hi] at hr
      cases hv; cases hr
      exact ⟨RowK.nil, fun b hb => by cases hb⟩
    · cases hv
  · rw [List.getElem?_replicate] at hv
    split at hv
    · cases hv; cases hb
    · cases hv
theorem Grid.at (h : Grid w B S g tS tI rows) {i : Nat} {r : List Nat} (hr : rows[i]? = some r) : ∃ v, w.cell? ⟨g, i, none⟩ = some v ∧ RowK w B tI (fun _ => False) v r ∧ (∀ b, v.ownBlock = some b → S b) ∧
    ∀ (w1 : World) (v' : Value) (r' : List Nat), w.heap.size ≤ w1.heap.size → (∀ k, (k < w.heap.size ∧ v.ownBlock ≠ some k) → w1.heap[k]? = w.heap[k]?) → RowK w1 B tI (fun _ => False) v' r' → (∀ b, v'.ownBlock = some b → S b ∧ (v.ownBlock = some b ∨ w.heap.size ≤ b)) →
      Grid (w1.setCell ⟨g, i, none⟩ v') B S g tS tI (rows.set i r') := by
  obtain ⟨vs, ha, hl, hrs, hd⟩ := h.vals
  have hi : i < rows.length := (List.getElem?_eq_some_iff.1 hr).1
  obtain ⟨v, hv⟩ : ∃ v, vs[i]? = some v := at_lt (by omega)
  obtain ⟨h1, h2⟩ := hrs i v r hv hr
  refine ⟨v, ha.cell hv, h1, h2, fun w1 v' r' hs hk hr' hn => ?_⟩
  have hgb : ∀ {v0 : Value} {r0 : List Nat} {W : World}, RowK W B tI (fun _ => False) v0 r0 → v0.ownBlock ≠ some g := fun h0 e => by have := (h0.kind g e).1; have := h.low; omega
  have ha1 : Arr w1 g tS vs := ha.keep (hk g ⟨ha.lt, hgb h1⟩)
  refine ⟨h.low, _, ha1.set i v', by simp [hl], fun j u s hu hs' => ?_, fun j k u u' b hjk hu hu' hb => ?_⟩
  · rw [List.getElem?_set] at hu hs'
    by_cases hj : i = j
    · subst hj
      rw [if_pos rfl, if_pos (by omega)] at hu
      rw [if_pos rfl, if_pos hi] at hs'
      cases hu; cases hs'
      exact ⟨hr'.keep (by simp) (fun _ hh => hh.elim) fun b hb => heap_setCell_other w1 _ b v' fun e => hgb hr' (by rw [hb, e]), fun b hb => (hn b hb).1⟩
    · rw [if_neg hj] at hu hs'
      obtain ⟨g1, g2⟩ := hrs j u s hu hs'
      refine ⟨g1.keep (by simpa using hs) (fun _ hh => hh.elim) fun b hb => ?_, g2⟩
      refine (heap_setCell_other w1 _ b v' fun e => hgb g1 (by rw [hb, e])).trans (hk b ⟨(g1.kind b hb).2.lt, fun e => ?_⟩)
      exact hd i j v u b hj hv hu e hb
  · have own : ∀ {m : Nat} {x : Value} {b : Nat}, m ≠ i → vs[m]? = some x → x.ownBlock = some b → v'.ownBlock ≠ some b := fun {m x b} hm hx hxb e => by
      obtain ⟨s, hs⟩ := at_lt (l := rows) (k := m) (by have := (List.getElem?_eq_some_iff.1 hx).1; omega)
      rcases (hn b e).2 with h3 | h3
      · exact hd i m v x b (fun e => hm e.symm) hv hx h3 hxb
      · have := ((hrs m x s hx hs).1.kind b hxb).2.lt; omega
    rw [List.getElem?_set] at hu hu'
    by_cases hj : i = j
    · subst hj
      rw [if_pos rfl, if_pos (by omega)] at hu
      rw [if_neg hjk] at hu'
      cases hu
      exact fun e => own (fun e => hjk e.symm) hu' e hb
    · rw [if_neg hj] at hu
      by_cases hk' : i = k
      · subst hk'
        rw [if_pos rfl, if_pos (by omega)] at hu'
        cases hu'
        exact own (fun e => hj e.symm) hu hb
      · rw [if_neg hk'] at hu'
        exact hd j k u u' b hjk hu hu' hb
theorem RowK.slFrom {α : Type} [Rep α] {e : TypeId} {v : Value} {l : List α} (h : RowK w B e (fun _ => False) v l) : ∃ A c, v = .slice A l.length c ∧ l.length ≤ c ∧ c ≤ maxLen ∧ Sl w (fun k => B ≤ k ∧ k < w.heap.size) A l.length l := by
  have hkind := h.kind
  obtain ⟨hk, rows, hr, hown, hrep⟩ := id h
  obtain ⟨A, c, rfl, h1, h2, h3⟩ := h.sl
  refine ⟨A, c, rfl, h1, h2, h3.1, h3.2.1, fun hn => ?_⟩
  obtain ⟨b, o, rfl, hb, hc⟩ := h3.2.2 hn
  have hown' := hown.2
  rcases hown' with ⟨h4, _⟩ | ⟨g, cap, cur, h4, hbg, hh, _⟩
  · cases h4
  · cases h4
    refine ⟨_, 0, rfl, ⟨hbg, hb⟩, fun i x hx => ?_⟩
    obtain ⟨vs, _, hat⟩ := hc i x hx
    have hi : i < l.length := (List.getElem?_eq_some_iff.1 hx).1
    have hri : rows[i]? = some (rows[i]'(by omega)) := List.getElem?_eq_getElem (by omega)
    have hrp := hrep i x _ hx hri
    refine ⟨rows[i]'(by omega), Rep.more (fun _ hf => hf.elim) hrp, fun j u hu => ?_⟩
    have hlens : ∀ r ∈ rows, r.length = Rep.sz α := by
      intro r hr2
      obtain ⟨i, hi⟩ := List.getElem?_of_mem hr2
      have hi2 := (List.getElem?_eq_some_iff.1 hi).1
      exact Rep.len (hrep i l[i] r (List.getElem?_eq_getElem (by omega)) hi)
    have hj : j < Rep.sz α := by
      have := (List.getElem?_eq_some_iff.1 hu).1
      rw [hlens _ (List.mem_of_getElem? hri)] at this
      exact this
    have h5 := hown.cells (g := _) rfl (i * Rep.sz α + j) u (by rw [flatten_at hlens hri hj]; exact hu)
    rw [addr_add] at h5
    rw [← h5]
    congr 2
    omega
theorem RowK.rep {K : Nat → Prop} {v : Value} {r : List Nat} (h : RowK w B tI K v r) : Rep.rep w (Lt w.heap.size) r [v] := by
  obtain ⟨A, c, rfl, h1, h2, h3⟩ := h.sl
  exact ⟨A, _, c, rfl, h1, h2, h3⟩
theorem Grid.sl (h : Grid w B S g tS tI rows) (hm : rows.length ≤ maxLen) : Sl w (Lt w.heap.size) (some ⟨g, 0, none⟩) rows.length rows := by
  obtain ⟨vs, ha, hl, hr, _⟩ := h.vals
  exact ha.sl rfl hl hm fun i x v hx hv => (hr i v x hv hx).1.rep
end
end Go.Proofs.Sm

namespace Go.Proofs.Sm
open Go.RowKit

theorem Sl.nat {w : World} {S : Nat → Prop} {A : Option Addr} {n k : Nat} {l : List Nat} (h : Sl w S A n l) (hk : k < n) : ∃ b o x, A = some ⟨b, o, none⟩ ∧ S b ∧ l[k]? = some x ∧ x ≤ maxLen ∧ w.cell? ⟨b, o + k, none⟩ = some (.int .i64 (x : Int)) := by
  have hk' : k < l.length := by rw [h.1]; exact hk
  obtain ⟨b, o, vs, e, hb, ⟨rfl, h1⟩, ha⟩ := h.at hk'
  have h0 := ha 0 _ rfl
  simp only [Rep.sz, Nat.mul_one, Nat.add_zero] at h0
  exact ⟨b, o, _, e, hb, List.getElem?_eq_getElem hk', h1, h0⟩
theorem Sl.bool {w : World} {S : Nat → Prop} {A : Option Addr} {n k : Nat} {l : List Bool} (h : Sl w S A n l) (hk : k < n) : ∃ b o x, A = some ⟨b, o, none⟩ ∧ S b ∧ l[k]? = some x ∧ w.cell? ⟨b, o + k, none⟩ = some (.bool x) := by
  have hk' : k < l.length := by rw [h.1]; exact hk
  obtain ⟨b, o, vs, e, hb, rfl, ha⟩ := h.at hk'
  have h0 := ha 0 _ rfl
  simp only [Rep.sz, Nat.mul_one, Nat.add_zero] at h0
  exact ⟨b, o, _, e, hb, List.getElem?_eq_getElem hk', h0⟩
set_option maxRecDepth 100000 in
theorem ref6_has (A : Option Addr) (n c : Nat) (l : List ByteArray) (s : ByteArray) (w : World) (S : Nat → Prop) (hsl : Sl w S A n l) :
    Calls Tryz.prog 26 #[.slice A n c, .string s] w fun e w' => e = .returned (.bool (hasB l s)) ∧ w = w' := by
  have hm : n ≤ 9223372036854775807 := hsl.2.1
  go_enter Tryz.func26, Tryz.ntmps26
  go_wp2
  go_loop [5] (fun i => ∃ k : Nat, k ≤ n ∧ i = .int .i64 k ∧ (l.take k).any (fun x => x.toList == s.toList) = false) (fun i => n - (intOf i).toNat)
  case atStart => exact ⟨0, Nat.zero_le _, rfl, rfl⟩
  case round =>
    obtain ⟨k, hk, rfl, hall⟩ := hrel
    have H := Lib.hid hall; clear hall
    by_cases hlt : k < n
    · obtain ⟨b, o, x, rfl, hb, hx, hxs, c0⟩ := hsl.str hlt
      have Hx := Lib.hid hx; clear hx
      cases hq : (x.toList == s.toList)
      · have HS := Lib.hid (any_step (p := fun x : ByteArray => x.toList == s.toList) Hx.out H.out hq)
        go_wp2
        go_round
        case rel => exact ⟨k + 1, by omega, by go_num, HS.out⟩
        case measure => simp [intOf]; omega
      · have HS := Lib.hid (show hasB l s = true from any_yes (p := fun x : ByteArray => x.toList == s.toList) Hx.out hq)
        go_wp2
        go_ret
        exact ⟨by rw [HS.out]; rfl, rfl⟩
    · have HS := Lib.hid (show hasB l s = false from any_end (by rw [hsl.1]; omega) H.out)
      go_wp2
      go_ret
      exact ⟨by rw [HS.out]; rfl, rfl⟩
/-- a number, or -1 -/
def numOr6 : Option Nat → Int
  | none => -1
  | some k => (k : Int)
theorem idx_step {l : List RuleV} {s : ByteArray} {k : Nat} {x : RuleV} (hx : l[k]? = some x) (h : ∀ j, j < k → ((l[j]?).any fun r => r.name.toList == s.toList) = false) (hq : (x.name.toList == s.toList) = false) : ∀ j, j < k + 1 → ((l[j]?).any fun r => r.name.toList == s.toList) = false := by
  intro j hj
  by_cases e : j = k
  · subst e; rw [hx]; exact hq
  · exact h j (by omega)
theorem idx_yes {l : List RuleV} {s : ByteArray} {k : Nat} {x : RuleV} (hx : l[k]? = some x) (h : ∀ j, j < k → ((l[j]?).any fun r => r.name.toList == s.toList) = false) (hq : (x.name.toList == s.toList) = true) : idxName l s = some k := by
  rw [idxName, List.find?_range_eq_some]
  refine ⟨by rw [hx]; exact hq, ?_, fun j hj => by rw [h j hj]; rfl⟩
  simpa using (List.getElem?_eq_some_iff.1 hx).1
theorem idx_end {l : List RuleV} {s : ByteArray} {k : Nat} (hk : l.length ≤ k) (h : ∀ j, j < k → ((l[j]?).any fun r => r.name.toList == s.toList) = false) : idxName l s = none := by
  rw [idxName, List.find?_eq_none]
  intro j hj
  rw [h j (by simp at hj; omega)]
  decide
set_option maxRecDepth 100000 in
theorem ref6_find (A : Option Addr) (n c : Nat) (l : List RuleV) (s : ByteArray) (w : World) (S : Nat → Prop) (hsl : Sl w S A n l) :
    Calls Tryz.prog 39 #[.slice A n c, .string s] w fun e w' => e = .returned (.int .i64 (numOr6 (idxName l s))) ∧ w = w' := by
  have hm : n ≤ 9223372036854775807 := hsl.2.1
  go_enter Tryz.func39, Tryz.ntmps39
  go_wp2
  go_loop [5] (fun i => ∃ k : Nat, k ≤ n ∧ i = .int .i64 k ∧ ∀ j, j < k → ((l[j]?).any fun r => r.name.toList == s.toList) = false) (fun i => n - (intOf i).toNat)
  case atStart => exact ⟨0, Nat.zero_le _, rfl, fun j hj => absurd hj (by omega)⟩
  case round =>
    obtain ⟨k, hk, rfl, hall⟩ := hrel
    have H := Lib.hid hall; clear hall
    by_cases hlt : k < n
    · obtain ⟨b, o, x, rfl, hb, hx, A1, n1, c1, A2, n2, c2, A3, n3, c3, A4, n4, c4, A5, n5, c5, _, _, _, q0, _⟩ := hsl.rule hlt
      have Hx := Lib.hid hx; clear hx
      cases hq : (x.name.toList == s.toList)
      · have HS := Lib.hid (idx_step Hx.out H.out hq)
        go_wp2
        go_round
        case rel => exact ⟨k + 1, by omega, by go_num, HS.out⟩
        case measure => simp [intOf]; omega
      · have HS := Lib.hid (idx_yes Hx.out H.out hq)
        go_wp2
        go_ret
        exact ⟨by rw [HS.out]; rfl, rfl⟩
    · have HS := Lib.hid (idx_end (by rw [hsl.1]; omega) H.out)
      go_wp2
      go_ret
      exact ⟨by rw [HS.out]; rfl, rfl⟩
set_option maxRecDepth 100000 in
theorem ref6_nested (p q : ByteArray) (w : World) (h : p.size ≤ 100000) (h' : q.size ≤ 100000) : Calls Tryz.prog 88 #[.string p, .string q] w fun e w' => e = .returned (.bool (liesS p q || liesS q p)) ∧ w = w' := by
  go_enter Tryz.func88, Tryz.ntmps88
  go_wp2_with fail
  refine (ref1_Lies p q _ h').mono ?_
  rintro e w1 ⟨rfl, rfl⟩
  cases hq : liesS p q
  · go_wp2_with fail
    refine (ref1_Lies q p _ h).mono ?_
    rintro e w1 ⟨rfl, rfl⟩
    go_wp2
    go_ret
    exact ⟨by rw [hq]; rfl, rfl⟩
  · go_wp2
    go_ret
    exact ⟨by rw [hq]; rfl, rfl⟩
/-- all of them are done -/
def readyB (need : List Nat) (done : List Bool) : Bool := need.all fun k => (done[k]?).getD false
set_option maxRecDepth 100000 in
theorem ref6_ready (A B : Option Addr) (n c m d : Nat) (need : List Nat) (done : List Bool) (w : World) (S : Nat → Prop) (hsl : Sl w S A n need) (hdn : Sl w S B m done) (hlt : ∀ k ∈ need, k < m) :
    Calls Tryz.prog 56 #[.slice A n c, .slice B m d] w fun e w' => e = .returned (.bool (readyB need done)) ∧ w = w' := by
  have hm : n ≤ 9223372036854775807 := hsl.2.1
  have hm2 : m ≤ 9223372036854775807 := hdn.2.1
  go_enter Tryz.func56, Tryz.ntmps56
  go_wp2
  go_loop [5] (fun i => ∃ k : Nat, k ≤ n ∧ i = .int .i64 k ∧ (need.take k).any (fun k => !(done[k]?).getD false) = false) (fun i => n - (intOf i).toNat)
  case atStart => exact ⟨0, Nat.zero_le _, rfl, rfl⟩
  case round =>
    obtain ⟨k, hk, rfl, hall⟩ := hrel
    have H := Lib.hid hall; clear hall
    by_cases hkn : k < n
    · obtain ⟨b, o, x, rfl, hb, hx, hxs, c0⟩ := hsl.nat hkn
      have hxm := hlt x (List.mem_of_getElem? hx)
      obtain ⟨b2, o2, y, rfl, hb2, hy, c2⟩ := hdn.bool hxm
      have Hx := Lib.hid hx; clear hx
      have Hy := Lib.hid hy; clear hy
      have hxI : (x : Int) < (m : Int) := by omega
      cases y
      · have HS := Lib.hid (show readyB need done = false by
          have := any_yes (p := fun k => !(done[k]?).getD false) Hx.out (by rw [Hy.out]; rfl)
          rw [readyB, List.all_eq_not_any_not, this]; rfl)
        go_wp2
        go_ret
        exact ⟨by rw [HS.out]; rfl, rfl⟩
      · have HS := Lib.hid (any_step (p := fun k => !(done[k]?).getD false) Hx.out H.out (by rw [Hy.out]; rfl))
        go_wp2
        go_round
        case rel => exact ⟨k + 1, by omega, by go_num, HS.out⟩
        case measure => simp [intOf]; omega
    · have HS := Lib.hid (show readyB need done = true by
        have := any_end (by rw [hsl.1]; omega) H.out
        rw [readyB, List.all_eq_not_any_not, this]; rfl)
      go_wp2
      go_ret
      exact ⟨by rw [HS.out]; rfl, rfl⟩
theorem bool_info : (Tryz.prog.info? 4).map (fun i => (i.zero, i.size, i.bytes)) = some (some (.bool false), 1, 1) := by kernel_rfl
theorem int_info : (Tryz.prog.info? 3).map (fun i => (i.zero, i.size, i.bytes)) = some (some (.int .i64 0), 1, 8) := by kernel_rfl
theorem ints_info : (Tryz.prog.info? 41).map (fun i => (i.zero, i.size, i.bytes)) = some (some (.slice none 0 0), 1, 24) := by kernel_rfl
/-- a row of so many equal cells -/
theorem made_cells (v : Value) (n : Nat) : (madeCells #[v] (n * 1)).toList = List.replicate n v := by
  rw [Nat.mul_one]
  apply List.ext_getElem
  · simp [madeCells]
  · intro i h1 h2
    simp [madeCells, Nat.mod_one]
set_option maxRecDepth 100000 in
theorem ref6_all (n : Nat) (w : World) (hn : n ≤ 1000000) :
    Calls Tryz.prog 25 #[.int .i64 (n : Nat)] w fun e w' => e = .returned (.slice (some ⟨w.heap.size, 0, none⟩) n n) ∧ Arr w' w.heap.size 4 (List.replicate n (.bool true)) ∧ Below w.heap.size w w' := by
  obtain ⟨i0, hi0, hz0, hz1, hz2⟩ := info_parts bool_info
  have hm : n ≤ 9223372036854775807 := by omega
  obtain ⟨g, hg⟩ : ∃ g, g = w.heap.size := ⟨_, rfl⟩
  rw [← hg]
  go_enter Tryz.func25, Tryz.ntmps25
  go_wp2_with (at_make; refine wpList_make_full _ rfl _ _ 44 rfl w.heap.size 4 i0 (.bool false) 1 Tryz.underlying44 hi0 hz0 hz1 .i64 .i64 (n : Nat) (n : Nat) n rfl rfl rfl rfl (by rw [hz2]; omega) (by unfold maxLen; omega) (Nat.le_refl _) ?_; intro w1 hown hg1)
  rw [show ((.bool false : Value).cells) = #[.bool false] from rfl, made_cells] at hown
  have ha := Arr.of_full hown
  have hb1 : Below w.heap.size w w1 := (Below.refl _ w).grown hg1 (Nat.le_refl _) fun k hk => by cases hk
  clear hown hg1
  rw [← hg] at ha hb1 ⊢
  clear hg
  go_wp2
  go_loopw [4] (fun i wr => ∃ k : Nat, k ≤ n ∧ i = .int .i64 k ∧ Arr wr g 4 (List.replicate k (Value.bool true) ++ List.replicate (n - k) (Value.bool false)) ∧ Below g w wr) (fun i _ => n - (intOf i).toNat)
  case atStart => exact ⟨0, Nat.zero_le _, rfl, by simpa using ha, hb1⟩
  case round =>
    clear ha hb1
    obtain ⟨k, hk, rfl, ha, hb⟩ := hrel
    by_cases hlt : k < n
    · have hf := ha.frozen k
      have hc : wr.cell? ⟨g, k, none⟩ = some (.bool false) := ha.cell (by rw [List.getElem?_append_right (by simp)]; simp [List.getElem?_replicate]; omega)
      have h2 := ha.set k (.bool true)
      have he : (List.replicate k (Value.bool true) ++ List.replicate (n - k) (Value.bool false)).set k (.bool true) = List.replicate (k + 1) (Value.bool true) ++ List.replicate (n - (k + 1)) (Value.bool false) := by
        rw [List.set_append_right _ _ (by simp), List.length_replicate, Nat.sub_self, show n - k = (n - (k + 1)) + 1 by omega, List.replicate_succ, List.set_cons_zero, List.replicate_succ', List.append_assoc]
        rfl
      rw [he] at h2
      have hb2 := hb.setCell (p := ⟨g, k, none⟩) (Nat.le_refl g) (.bool true)
      clear ha he
      go_wp2
      go_roundw
      case rel => exact ⟨k + 1, by omega, by go_num, h2, hb2⟩
      case measure => simp [intOf]; omega
    · obtain rfl : k = n := by omega
      rw [Nat.sub_self, List.replicate_zero, List.append_nil] at ha
      go_wp2
      go_ret
      exact ⟨rfl, ha, hb⟩
end Go.Proofs.Sm

namespace Go.Proofs.Sm
open Go.RowKit

def lenOf : Value → Nat
  | .slice _ n _ => n
  | _ => 0
def doneV (n : Nat) (out : List Nat) : List Value := (List.range n).map fun i => .bool (out.contains i)
def doneB (n : Nat) (out : List Nat) : List Bool := (List.range n).map fun i => out.contains i
theorem done_start (n : Nat) : doneV n [] = List.replicate n (.bool false) := by
  apply List.ext_getElem
  · simp [doneV]
  · intro i h1 h2
    simp [doneV]
theorem done_at {n i : Nat} (out : List Nat) (h : i < n) : (doneV n out)[i]? = some (.bool (out.contains i)) := by
  rw [doneV, List.getElem?_map, List.getElem?_range h]; rfl
theorem done_set {n k : Nat} (out : List Nat) : (doneV n out).set k (.bool true) = doneV n (out ++ [k]) := by
  apply List.ext_getElem
  · simp [doneV]
  · intro i h1 h2
    rw [List.getElem_set]
    simp only [doneV, List.getElem_map, List.getElem_range]
    split
    · rename_i e; subst e; simp
    · rename_i e
      have : ¬ i = k := fun h => e h.symm
      simp [this]
theorem doneV_len (n : Nat) (out : List Nat) : (doneV n out).length = n := by simp [doneV]
theorem done_sl {w : World} {q n : Nat} {out : List Nat} (h : Arr w q 4 (doneV n out)) (hn : n ≤ maxLen) : Sl w (Lt w.heap.size) (some ⟨q, 0, none⟩) n (doneB n out) := by
  have hl : (doneB n out).length = n := by simp [doneB]
  have := h.sl (α := Bool) (l := doneB n out) rfl (by simp [doneV, doneB]) (by rw [hl]; exact hn) fun i x v hx hv => by
    have hi : i < n := by have := (List.getElem?_eq_some_iff.1 hx).1; rwa [hl] at this
    rw [done_at out hi] at hv
    rw [doneB, List.getElem?_map, List.getElem?_range hi] at hx
    cases hv; cases hx; rfl
  rwa [hl] at this
theorem ready_eq {g : Graph} {n i : Nat} {out : List Nat} (hw : ∀ k ∈ needAt g i, k < n) : readyB (needAt g i) (doneB n out) = readyS g out i := by
  rw [readyB, readyS, Bool.eq_iff_iff, List.all_eq_true, List.all_eq_true]
  constructor
  · intro h k hk
    have := h k hk
    rw [doneB, List.getElem?_map, List.getElem?_range (hw k hk)] at this
    exact this
  · intro h k hk
    rw [doneB, List.getElem?_map, List.getElem?_range (hw k hk)]
    exact h k hk
theorem need_row {g : Graph} {i : Nat} {r : List Nat} (h : g[i]? = some r) : needAt g i = r := by rw [needAt, h]; rfl
theorem free_no1 {g : Graph} {s : List Bool} {out : List Nat} {k : Nat} (h : s[k]? = some false) : freeS g (isOf s) out k = false := by rw [freeS, isOf, h]; rfl
theorem free_no2 {g : Graph} {s : List Bool} {out : List Nat} {k : Nat} (h : out.contains k = true) : freeS g (isOf s) out k = false := by rw [freeS, h]; simp
theorem free_is {g : Graph} {s : List Bool} {out : List Nat} {k : Nat} (h : s[k]? = some true) (h1 : out.contains k = false) : freeS g (isOf s) out k = readyS g out k := by rw [freeS, isOf, h, h1]; simp
theorem upto_step {p : Nat → Bool} {k : Nat} (h : ∀ j, j < k → p j = false) (hk : p k = false) : ∀ j, j < k + 1 → p j = false := fun j hj => by
  by_cases e : j = k
  · subst e; exact hk
  · exact h j (by omega)
theorem size_setCell' (w : World) (p : Addr) (u : Value) : (w.setCell p u).heap.size = w.heap.size := by simp
set_option maxHeartbeats 2000000 in
set_option maxRecDepth 100000 in
theorem ref6_ordered (A B : Option Addr) (n c d : Nat) (g : Graph) (s : List Bool) (w : World) (hsl : Sl w (Lt w.heap.size) A n g) (hin : Sl w (Lt w.heap.size) B n s) (hw : Within g) (hn : n ≤ 1000000) :
    Calls Tryz.prog 24 #[.slice A n c, .slice B n d] w fun e w' => ∃ v, e = .returned (.tuple #[v, .bool (orderS g (isOf s)).2]) ∧ RowK w' (w.heap.size + 1) 3 (fun _ => False) v (orderS g (isOf s)).1 ∧ Below w.heap.size w w' := by
  obtain ⟨b0, hb0, hbz0, hbz1, hbz2⟩ := info_parts bool_info
  obtain ⟨i0, hi0, hz0, hz1, hz2'⟩ := info_parts int_info
  have hm : n ≤ 9223372036854775807 := by omega
  have hng : g.length = n := hsl.1
  obtain ⟨q, hq⟩ : ∃ q, q = w.heap.size := ⟨_, rfl⟩
  rw [← hq] at hsl hin ⊢
  go_enter Tryz.func24, Tryz.ntmps24
  go_wp2_with (at_make; refine wpList_make_full _ rfl _ _ 44 rfl w.heap.size 4 b0 (.bool false) 1 Tryz.underlying44 hb0 hbz0 hbz1 .i64 .i64 (n : Nat) (n : Nat) n rfl rfl rfl rfl (by rw [hbz2]; omega) (by unfold maxLen; omega) (Nat.le_refl _) ?_; intro w1 hown hg1)
  rw [show ((.bool false : Value).cells) = #[.bool false] from rfl, made_cells, ← done_start] at hown
  have ha0 := Arr.of_full hown
  have hb1 : Below w.heap.size w w1 := (Below.refl _ w).grown hg1 (Nat.le_refl _) fun k hk => by cases hk
  have hz1' : w.heap.size + 1 ≤ w1.heap.size := ha0.lt
  clear hown hg1
  rw [← hq] at ha0 hb1 hz1' ⊢
  clear hq
  go_wp2
  go_loopw [7] (fun v wr => ∃ out : List Nat, RowK wr (q + 1) 3 (fun _ => False) v out ∧ Arr wr q 4 (doneV n out) ∧ Done g (isOf s) out ∧ orderS g (isOf s) = restO g (isOf s) out ∧ Below q w wr ∧ q + 1 ≤ wr.heap.size) (fun v _ => n - lenOf v)
  case atStart => exact ⟨[], RowK.nil, ha0, Done.nil, rfl, hb1, hz1'⟩
  case round =>
    clear ha0 hb1 hz1'
    obtain ⟨out, hrow, ha, hdone, hrest, hbel, hz⟩ := hrel
    obtain ⟨O, oc, rfl, ho1, ho2, ho3⟩ := hrow.sl
    have HRow := Lib.hid hrow; clear hrow ho3
    have HRest := Lib.hid hrest; clear hrest
    have HD := Lib.hid hdone; clear hdone
    go_wp2
    go_loop [8, 9, 10] (fun nx lf i => ∃ k : Nat, k ≤ n ∧ i = .int .i64 k ∧ ((nx = .int .i64 (-1) ∧ lf = .bool ((List.range k).any fun i => isOf s i && !out.contains i) ∧ ∀ j, j < k → freeS g (isOf s) out j = false) ∨ ∃ j : Nat, nx = .int .i64 j ∧ j < n ∧ nextS g (isOf s) out = some j)) (fun _ _ i => n - (intOf i).toNat)
    case atStart => exact ⟨0, Nat.zero_le _, rfl, .inl ⟨rfl, rfl, fun j hj => absurd hj (by omega)⟩⟩
    case round =>
      obtain ⟨k, hk, rfl, ⟨rfl, rfl, hall⟩ | ⟨j, rfl, hj, hnx⟩⟩ := hrel
      · have H := Lib.hid hall; clear hall
        by_cases hlt : k < n
        · obtain ⟨bi, oi, x, rfl, _, hx, ci⟩ := (hin.keep (keep_lt hbel)).bool hlt
          have HX := Lib.hid hx; clear hx
          have hkI : (k : Int) < (n : Int) := by omega
          have hc : wr.cell? ⟨q, k, none⟩ = some (.bool (out.contains k)) := ha.cell (done_at out hlt)
          cases x
          · have HS := Lib.hid (upto_step H.out (free_no1 HX.out))
            have HL := Lib.hid (show ((List.range (k + 1)).any fun i => isOf s i && !out.contains i) = ((List.range k).any fun i => isOf s i && !out.contains i) by rw [range_any_succ, isOf, HX.out]; simp)
            generalize ((List.range k).any fun i => isOf s i && !out.contains i) = L at HL ⊢
            go_wp2
            go_round
            case rel => exact ⟨k + 1, by omega, by go_num, .inl ⟨rfl, by rw [HL.out], HS.out⟩⟩
            case measure => simp [intOf]; omega
          · cases hd : out.contains k
            · rw [hd] at hc
              have HL := Lib.hid (show ((List.range (k + 1)).any fun i => isOf s i && !out.contains i) = true by rw [range_any_succ, isOf, HX.out, hd]; simp)
              generalize ((List.range k).any fun i => isOf s i && !out.contains i) = L
              obtain ⟨bg, og, r, A', n', c', rfl, _, hr, _, _, hslr, cg⟩ := (hsl.keep (keep_lt hbel)).row hlt
              have hR := Lib.hid (need_row hr)
              have hwk : ∀ m ∈ needAt g k, m < n := fun m hm => by rw [← hng]; exact hw k m hm
              have HC := Lib.hid (ref6_ready A' (some ⟨q, 0, none⟩) n' c' n n r (doneB n out) wr (Lt wr.heap.size) (hslr.more (lt_mono (by omega))) (done_sl ha (by unfold maxLen; omega)) (by rw [← hR.out]; exact hwk))
              have HE := Lib.hid ((free_is (g := g) HX.out hd).trans (ready_eq hwk).symm)
              rw [hR.out] at HE
              clear hr hslr hwk
              go_wp2_with fail
              refine HC.out.mono ?_
              rintro e w2 ⟨rfl, rfl⟩
              cases hrd : readyB r (doneB n out)
              · rw [hrd] at HE
                have HS := Lib.hid (upto_step H.out HE.out)
                go_wp2
                go_round
                case rel => exact ⟨k + 1, by omega, by go_num, .inl ⟨rfl, by rw [HL.out], HS.out⟩⟩
                case measure => simp [intOf]; omega
              · rw [hrd] at HE
                have HN := Lib.hid (next_is (by rw [hng]; exact hlt) HE.out H.out)
                go_wp2
                go_round
                case rel => exact ⟨k + 1, by omega, by go_num, .inr ⟨k, rfl, hlt, HN.out⟩⟩
                case measure => simp [intOf]; omega
            · rw [hd] at hc
              have HS := Lib.hid (upto_step H.out (free_no2 (g := g) (s := s) hd))
              have HL := Lib.hid (show ((List.range (k + 1)).any fun i => isOf s i && !out.contains i) = ((List.range k).any fun i => isOf s i && !out.contains i) by rw [range_any_succ, hd]; simp)
              generalize ((List.range k).any fun i => isOf s i && !out.contains i) = L at HL ⊢
              go_wp2
              go_round
              case rel => exact ⟨k + 1, by omega, by go_num, .inl ⟨rfl, by rw [HL.out], HS.out⟩⟩
              case measure => simp [intOf]; omega
        · obtain rfl : k = n := by omega
          have HV := Lib.hid (show orderS g (isOf s) = (out, !((List.range k).any fun i => isOf s i && !out.contains i)) by
            rw [HRest.out, restO_stop (next_none.2 fun j hj => H.out j (by omega)), undoneS, hng])
          generalize ((List.range k).any fun i => isOf s i && !out.contains i) = L at HV ⊢
          go_wp2
          go_ret2
          exact ⟨_, by rw [HV.out]; rfl, by rw [HV.out]; exact HRow.out, hbel⟩
      · have HN := Lib.hid hnx; clear hnx
        by_cases hlt : k < n
        · have hkI : (k : Int) < (n : Int) := by omega
          have hlt2 := Nat.lt_of_lt_of_le ((undone_iff HD.out).1 (next_undone HN.out)) (many_le g (isOf s))
          have hjI : ¬ (j : Int) < 0 := by omega
          have hjn : (j : Int) < (n : Int) := by omega
          have hf := ha.frozen j
          have hc : wr.cell? ⟨q, j, none⟩ = some (.bool (out.contains j)) := ha.cell (done_at out hj)
          have ha2 := ha.set j (.bool true)
          rw [done_set] at ha2
          have hb2 := hbel.setCell (p := ⟨q, j, none⟩) (Nat.le_refl q) (.bool true)
          have hz2 : q + 1 ≤ (wr.setCell ⟨q, j, none⟩ (.bool true)).heap.size := by simpa using hz
          have row2 : RowK (wr.setCell ⟨q, j, none⟩ (.bool true)) (q + 1) 3 (fun _ => False) (.slice O out.length oc) out := HRow.out.keep (by simp) (fun _ hh => hh.elim) fun b hb => heap_setCell_other wr ⟨q, j, none⟩ b _ (by have := (HRow.out.kind b hb).1; show b ≠ q; omega)
          have hW9 : Below (wr.setCell ⟨q, j, none⟩ (.bool true)).heap.size (wr.setCell ⟨q, j, none⟩ (.bool true)) ((wr.setCell ⟨q, j, none⟩ (.bool true)).alloc (.cells #[.int .i64 (j : Int)] 3)) := fr_alloc (fr_refl _) _
          have row9 := row2.call hW9
          have ha9 := ha2.call hW9
          have hb9 := hb2.trans (hW9.mono (by omega : q ≤ _))
          obtain ⟨_, rows, hrows, hown9, hrep⟩ := id row9
          have hnew : ∀ (j' : Nat) u, ([.int .i64 (j : Int)] : List Value)[j']? = some u → ((wr.setCell ⟨q, j, none⟩ (.bool true)).alloc (.cells #[.int .i64 (j : Int)] 3)).cell? ((⟨wr.heap.size, 0, none⟩ : Addr).add j') = some u := fun j' u hu => by
            have := new_cells (wr.setCell ⟨q, j, none⟩ (.bool true)) #[.int .i64 (j : Int)] 3 j' u hu
            rwa [size_setCell'] at this
          clear row2 row9 ha2
          go_wp2_with (at_builtin; refine wpList_append_lies _ rfl _ _ 41 rfl (q + 1) 3 i0 _ 1 8 Tryz.underlying41 hi0 hz0 hz1 hz2' rfl (by decide) _ out.length _ rfl hown9 ⟨wr.heap.size, 0, none⟩ 1 1 [.int .i64 (j : Int)] rfl rfl hnew (fun u hu => (by simp only [List.mem_cons, List.mem_nil_iff, or_false] at hu; subst hu; rfl)) (by decide) (by unfold maxLen; omega) (by omega) (by rw [World.size_alloc]; omega) _ rfl ?_)
          intro g' cap w5 hown5 hg5 hat5 hlt5
          have row5 := RowK.append (x := j) (r := [.int .i64 (j : Int)]) (fun k hh => hh.elim) hrows hrep ⟨rfl, by unfold maxLen; omega⟩ (fun _ _ hh => hh) hg5 hown5
          have ha5 := ha9.grown hg5 fun e => by have := (HRow.out.kind q e).1; omega
          have hb5 := hb9.grown hg5 (by rw [World.size_alloc]; omega) fun b hb => by have := (HRow.out.kind b hb).1; omega
          have hz5 := hg5.size
          rw [World.size_alloc] at hz5
          have hz6 : q + 1 ≤ w5.heap.size := by omega
          have HN2 := Lib.hid (show Done g (isOf s) (out ++ [j]) ∧ orderS g (isOf s) = restO g (isOf s) (out ++ [j]) from ⟨HD.out.more HN.out, HRest.out.trans (restO_next HD.out HN.out)⟩)
          clear hown9 hown5 hg5 hat5 hrep ha9 hb9 ha hc hf hjI
          go_wp2
          go_roundw
          case rel => exact ⟨out ++ [j], row5, ha5, HN2.out.1, HN2.out.2, hb5, hz6⟩
          case measure => simp only [lenOf]; omega
        · have hkn : n = k := by omega
          subst hkn
          have hlt2 := Nat.lt_of_lt_of_le ((undone_iff HD.out).1 (next_undone HN.out)) (many_le g (isOf s))
          have hjI : ¬ (j : Int) < 0 := by omega
          have hjn : (j : Int) < (n : Int) := by omega
          have hf := ha.frozen j
          have hc : wr.cell? ⟨q, j, none⟩ = some (.bool (out.contains j)) := ha.cell (done_at out hj)
          have ha2 := ha.set j (.bool true)
          rw [done_set] at ha2
          have hb2 := hbel.setCell (p := ⟨q, j, none⟩) (Nat.le_refl q) (.bool true)
          have hz2 : q + 1 ≤ (wr.setCell ⟨q, j, none⟩ (.bool true)).heap.size := by simpa using hz
          have row2 : RowK (wr.setCell ⟨q, j, none⟩ (.bool true)) (q + 1) 3 (fun _ => False) (.slice O out.length oc) out := HRow.out.keep (by simp) (fun _ hh => hh.elim) fun b hb => heap_setCell_other wr ⟨q, j, none⟩ b _ (by have := (HRow.out.kind b hb).1; show b ≠ q; omega)
          have hW9 : Below (wr.setCell ⟨q, j, none⟩ (.bool true)).heap.size (wr.setCell ⟨q, j, none⟩ (.bool true)) ((wr.setCell ⟨q, j, none⟩ (.bool true)).alloc (.cells #[.int .i64 (j : Int)] 3)) := fr_alloc (fr_refl _) _
          have row9 := row2.call hW9
          have ha9 := ha2.call hW9
          have hb9 := hb2.trans (hW9.mono (by omega : q ≤ _))
          obtain ⟨_, rows, hrows, hown9, hrep⟩ := id row9
          have hnew : ∀ (j' : Nat) u, ([.int .i64 (j : Int)] : List Value)[j']? = some u → ((wr.setCell ⟨q, j, none⟩ (.bool true)).alloc (.cells #[.int .i64 (j : Int)] 3)).cell? ((⟨wr.heap.size, 0, none⟩ : Addr).add j') = some u := fun j' u hu => by
            have := new_cells (wr.setCell ⟨q, j, none⟩ (.bool true)) #[.int .i64 (j : Int)] 3 j' u hu
            rwa [size_setCell'] at this
          clear row2 row9 ha2
          go_wp2_with (at_builtin; refine wpList_append_lies _ rfl _ _ 41 rfl (q + 1) 3 i0 _ 1 8 Tryz.underlying41 hi0 hz0 hz1 hz2' rfl (by decide) _ out.length _ rfl hown9 ⟨wr.heap.size, 0, none⟩ 1 1 [.int .i64 (j : Int)] rfl rfl hnew (fun u hu => (by simp only [List.mem_cons, List.mem_nil_iff, or_false] at hu; subst hu; rfl)) (by decide) (by unfold maxLen; omega) (by omega) (by rw [World.size_alloc]; omega) _ rfl ?_)
          intro g' cap w5 hown5 hg5 hat5 hlt5
          have row5 := RowK.append (x := j) (r := [.int .i64 (j : Int)]) (fun k hh => hh.elim) hrows hrep ⟨rfl, by unfold maxLen; omega⟩ (fun _ _ hh => hh) hg5 hown5
          have ha5 := ha9.grown hg5 fun e => by have := (HRow.out.kind q e).1; omega
          have hb5 := hb9.grown hg5 (by rw [World.size_alloc]; omega) fun b hb => by have := (HRow.out.kind b hb).1; omega
          have hz5 := hg5.size
          rw [World.size_alloc] at hz5
          have hz6 : q + 1 ≤ w5.heap.size := by omega
          have HN2 := Lib.hid (show Done g (isOf s) (out ++ [j]) ∧ orderS g (isOf s) = restO g (isOf s) (out ++ [j]) from ⟨HD.out.more HN.out, HRest.out.trans (restO_next HD.out HN.out)⟩)
          clear hown9 hown5 hg5 hat5 hrep ha9 hb9 ha hc hf hjI
          go_wp2
          go_roundw
          case rel => exact ⟨out ++ [j], row5, ha5, HN2.out.1, HN2.out.2, hb5, hz6⟩
          case measure => simp only [lenOf]; omega
/-- the grid of needs when rows below i and the first k of row i are done -/
def gridAt (l : List RuleV) (i k : Nat) : List (List Nat) := (List.range l.length).map fun a => if a < i then (List.range l.length).filter (usesS l a) else if a = i then (List.range k).filter (usesS l i) else []
theorem grid_start (l : List RuleV) : gridAt l 0 0 = List.replicate l.length [] := by
  apply List.ext_getElem
  · simp [gridAt]
  · intro i h1 h2
    simp [gridAt]
theorem grid_next (l : List RuleV) (i : Nat) : gridAt l i l.length = gridAt l (i + 1) 0 := by
  apply List.ext_getElem
  · simp [gridAt]
  · intro a h1 h2
    simp only [gridAt, List.getElem_map, List.getElem_range]
    by_cases e1 : a < i
    · rw [if_pos e1, if_pos (by omega)]
    · rw [if_neg e1]
      by_cases e2 : a = i
      · subst e2; rw [if_pos rfl, if_pos (by omega)]
      · rw [if_neg e2, if_neg (by omega)]
        split <;> simp
theorem grid_end (l : List RuleV) : gridAt l l.length 0 = needsS l := by
  apply List.ext_getElem
  · simp [gridAt, needsS]
  · intro a h1 h2
    have ha : a < l.length := by simpa [gridAt] using h1
    simp only [gridAt, needsS, List.getElem_map, List.getElem_range]
    rw [if_pos ha]
theorem grid_row {l : List RuleV} {i k : Nat} (hi : i < l.length) : (gridAt l i k)[i]? = some ((List.range k).filter (usesS l i)) := by
  rw [gridAt, List.getElem?_map, List.getElem?_range hi]
  simp
theorem grid_set {l : List RuleV} {i k : Nat} (h : usesS l i k = true) : (gridAt l i k).set i ((List.range k).filter (usesS l i) ++ [k]) = gridAt l i (k + 1) := by
  apply List.ext_getElem
  · simp [gridAt]
  · intro a h1 h2
    rw [List.getElem_set]
    simp only [gridAt, List.getElem_map, List.getElem_range]
    split
    · rename_i e
      subst e
      rw [if_neg (by omega), if_pos rfl, List.range_succ, List.filter_append]
      simp [h]
    · rename_i e
      by_cases e1 : a < i
      · rw [if_pos e1, if_pos e1]
      · rw [if_neg e1, if_neg e1, if_neg (fun h => e h.symm), if_neg (fun h => e h.symm)]
theorem grid_same {l : List RuleV} {i k : Nat} (h : usesS l i k = false) : gridAt l i (k + 1) = gridAt l i k := by
  apply List.ext_getElem
  · simp [gridAt]
  · intro a h1 h2
    simp only [gridAt, List.getElem_map, List.getElem_range, List.range_succ, List.filter_append]
    simp [h]
end Go.Proofs.Sm

namespace Go.Proofs.Sm
open Go.RowKit

theorem slice_own6 {A : Addr} {n c g : Nat} (h : (Value.slice (some A) n c).ownBlock = some g) : A.block = g := by simpa [Value.ownBlock] using h
theorem any_hid {α : Type} {p : α → Bool} {l : List α} {k : Nat} {x : α} (hx : l[k]? = some x) : (l.take (k + 1)).any p = ((l.take k).any p || p x) := by
  rw [List.take_add_one, hx, List.any_append]; simp
set_option maxHeartbeats 2000000 in
set_option maxRecDepth 100000 in
theorem ref6_needs (A : Option Addr) (n c : Nat) (l : List RuleV) (w : World) (hsl : Sl w (Lt w.heap.size) A n l) (hn : n ≤ 1000000) :
    Calls Tryz.prog 23 #[.slice A n c] w fun e w' => e = .returned (.slice (some ⟨w.heap.size, 0, none⟩) n n) ∧ Sl w' (Lt w'.heap.size) (some ⟨w.heap.size, 0, none⟩) n (needsS l) ∧ Below w.heap.size w w' := by
  obtain ⟨s0, hs0, hsz0, hsz1, hsz2⟩ := info_parts ints_info
  obtain ⟨i0, hi0, hz0, hz1, hz2'⟩ := info_parts int_info
  have hm : n ≤ 9223372036854775807 := by omega
  have hng : l.length = n := hsl.1
  obtain ⟨q, hq⟩ : ∃ q, q = w.heap.size := ⟨_, rfl⟩
  rw [← hq] at hsl ⊢
  go_enter Tryz.func23, Tryz.ntmps23
  go_wp2_with (at_make; refine wpList_make_full _ rfl _ _ 54 rfl w.heap.size 41 s0 (.slice none 0 0) 1 Tryz.underlying54 hs0 hsz0 hsz1 .i64 .i64 (n : Nat) (n : Nat) n rfl rfl rfl rfl (by rw [hsz2]; omega) (by unfold maxLen; omega) (Nat.le_refl _) ?_; intro w1 hown hg1)
  rw [show ((.slice none 0 0 : Value).cells) = #[.slice none 0 0] from rfl, made_cells] at hown
  have ha0 := Arr.of_full hown
  have hb1 : Below w.heap.size w w1 := (Below.refl _ w).grown hg1 (Nat.le_refl _) fun k hk => by cases hk
  have hz1' : w.heap.size + 1 ≤ w1.heap.size := ha0.lt
  clear hown hg1
  rw [← hq] at ha0 hb1 hz1' ⊢
  clear hq
  have hgr0 : Grid w1 (q + 1) (fun _ => True) q 41 3 (gridAt l 0 0) := by rw [grid_start, hng]; exact Grid.made ha0 (Nat.lt_succ_self q)
  clear ha0
  go_wp2
  go_loopw [4] (fun i wr => ∃ a : Nat, a ≤ n ∧ i = .int .i64 a ∧ Grid wr (q + 1) (fun _ => True) q 41 3 (gridAt l a 0) ∧ Below q w wr ∧ q + 1 ≤ wr.heap.size) (fun i _ => n - (intOf i).toNat)
  case atStart => exact ⟨0, Nat.zero_le _, rfl, hgr0, hb1, hz1'⟩
  case round =>
    clear hgr0 hb1 hz1'
    obtain ⟨a, ha, rfl, hgr, hbel, hz⟩ := hrel
    by_cases hla : a < n
    · go_wp2
      go_loopw [5] (fun i wr => ∃ k : Nat, k ≤ n ∧ i = .int .i64 k ∧ Grid wr (q + 1) (fun _ => True) q 41 3 (gridAt l a k) ∧ Below q w wr ∧ q + 1 ≤ wr.heap.size) (fun i _ => n - (intOf i).toNat)
      case atStart => exact ⟨0, Nat.zero_le _, rfl, hgr, hbel, hz⟩
      case round =>
        clear hgr hbel hz
        obtain ⟨k, hk, rfl, hgr, hbel, hz⟩ := hrel
        have HG := Lib.hid hgr; clear hgr
        by_cases hlk : k < n
        · have haI : (a : Int) < (n : Int) := by omega
          have hkI : (k : Int) < (n : Int) := by omega
          go_wp2
          go_loopw [6, 7] (fun u j wx => ∃ t : Nat, t ≤ (outsAt l k).length ∧ j = .int .i64 t ∧ u = .bool (((outsAt l k).take t).any fun p => hasB (insAt l a) p) ∧ wx.heap = wr.heap ∧ Below q w wx) (fun _ j _ => (outsAt l k).length - (intOf j).toNat)
          case atStart => exact ⟨0, Nat.zero_le _, rfl, rfl, rfl, hbel⟩
          case round =>
            obtain ⟨t, ht, rfl, rfl, hhp, hbel2⟩ := hrel
            have HH := Lib.hid hhp; clear hhp
            obtain ⟨b, o, x, rfl, _, hx, A1, n1, c1, A2, n2, c2, A3, n3, c3, A4, n4, c4, A5, n5, c5, _, _, ⟨_, _, s3, _, s5⟩, q0, q1, q2, q3, q4, q5, q6, q7⟩ := (hsl.keep (keep_lt hbel2)).rule hlk
            obtain ⟨b', o', y, e', _, hy, A1', n1', c1', A2', n2', c2', A3', n3', c3', A4', n4', c4', A5', n5', c5', _, _, ⟨_, _, s3', _, s5'⟩, r0, r1, r2, r3, r4, r5, r6, r7⟩ := (hsl.keep (keep_lt hbel2)).rule hla
            cases e'
            have ho := Lib.hid (outsAt_some hx)
            have hi := Lib.hid (insAt_some hy)
            have hn3 : n3 = (outsAt l k).length := by rw [ho.out, s3.1]
            have hm3 : n3 ≤ 9223372036854775807 := s3.2.1
            clear hx hy q0 q1 q2 q3 q5 q6 q7 r0 r1 r2 r3 r4 r5 r6
            by_cases hlt : t < n3
            · obtain ⟨b3, o3, p, rfl, _, hp, hps, c3'⟩ := s3.str hlt
              have hp' : (outsAt l k)[t]? = some p := by rw [ho.out]; exact hp
              have HA := Lib.hid (any_hid (p := fun p => hasB (insAt l a) p) hp')
              have HC := Lib.hid (fun W (hW : W.heap = wr.heap) => (ref6_has A5' n5' c5' y.inputs p W (Lt q) (s5'.keep fun k _ => by rw [hW])).mono fun e w' h => (show e = Ending.returned (.bool (hasB (insAt l a) p)) ∧ w' = W from ⟨by rw [hi.out]; exact h.1, h.2.symm⟩))
              clear hp hp' s3 s5'
              generalize ((outsAt l k).take t).any (fun p => hasB (insAt l a) p) = U at HA ⊢
              have htI : (t : Int) < (n3 : Int) := by omega
              cases U
              · go_wp2
                go_quiet ((go_at_call 26; exact Calls.quiet_of_same (HC.out _ rfl)))
                go_wp2
                go_roundw
                case rel => exact ⟨t + 1, by omega, by go_num, by rw [HA.out]; simp, HH.out, below_drewN hbel2 _⟩
                case measure => simp [intOf]; omega
              · go_wp2
                go_quiet (fail)
                go_wp2
                go_roundw
                case rel => exact ⟨t + 1, by omega, by go_num, by rw [HA.out]; simp, HH.out, below_drewN hbel2 _⟩
                case measure => simp [intOf]; omega
            · have HU := Lib.hid (show ((outsAt l k).take t).any (fun p => hasB (insAt l a) p) = usesS l a k by rw [List.take_of_length_le (by omega), usesS])
              rw [HU.out]
              have hgr : Grid wr (q + 1) (fun _ => True) q 41 3 (gridAt l a k) := HG.out.keep (by rw [HH.out]; exact Nat.le_refl _) (by rw [HH.out]) fun _ _ _ _ => by rw [HH.out]
              have hz2 : q + 1 ≤ wr.heap.size := by rw [HH.out]; exact hz
              cases hu : usesS l a k
              · rw [← grid_same hu] at hgr
                have HG2 := Lib.hid hgr; clear hgr
                go_wp2
                go_roundw
                case rel => exact ⟨k + 1, by omega, by go_num, HG2.out, hbel2, hz2⟩
                case measure => simp [intOf]; omega
              · obtain ⟨v, cv, hrow, _, hput⟩ := hgr.at (grid_row (l := l) (k := k) (by omega : a < l.length))
                have HP := Lib.hid hput; clear hput
                obtain ⟨O, oc, rfl, ho1, ho2, _⟩ := hrow.sl
                have hle : ((List.range k).filter (usesS l a)).length ≤ k := by have := List.length_filter_le (usesS l a) (List.range k); simpa using this
                have HU2 := Lib.hid hu; clear hu
                generalize hr : (List.range k).filter (usesS l a) = r at hrow HP ho1 hle cv
                have HR := Lib.hid hr; clear hr
                have hW9 : Below wr.heap.size wr (wr.alloc (.cells #[.int .i64 (k : Int)] 3)) := fr_alloc (fr_refl wr) _
                have row9 := hrow.call hW9
                have hb9 := hbel2.trans (hW9.mono (by omega : q ≤ _))
                obtain ⟨_, rows, hrows, hown9, hrep⟩ := id row9
                have hzz := hW9.size
                clear row9 hgr
                go_wp2_with (at_builtin; refine wpList_append_lies _ rfl _ _ 41 rfl (q + 1) 3 i0 _ 1 8 Tryz.underlying41 hi0 hz0 hz1 hz2' rfl (by decide) _ r.length _ rfl hown9 ⟨wr.heap.size, 0, none⟩ 1 1 [.int .i64 (k : Int)] rfl rfl (new_cells wr #[_] _) (fun u hu => (by simp only [List.mem_cons, List.mem_nil_iff, or_false] at hu; subst hu; rfl)) (by decide) (by unfold maxLen; omega) (by omega) (by omega) _ rfl ?_)
                intro g' cap w5 hown5 hg5 hat5 hlt5
                have row5 := RowK.append (x := k) (r := [.int .i64 (k : Int)]) (fun k hh => hh.elim) hrows hrep ⟨rfl, by unfold maxLen; omega⟩ (fun _ _ hh => hh) hg5 hown5
                have hz5 := hg5.size
                have hG5 := HP.out w5 _ (r ++ [k]) (by omega) (fun k' hk' => (hg5.block k' (by omega) fun e => hk'.2 e.symm).trans (hW9.block k' hk'.1)) row5 (fun b hb => ⟨trivial, by
                  obtain rfl := slice_own6 hb
                  rcases hat5 with h1 | h1
                  · exact .inl h1
                  · exact .inr (by show wr.heap.size ≤ g'; omega)⟩)
                rw [← HR.out, grid_set HU2.out, HR.out] at hG5
                have hq5 : w5.heap[q]? = wr.heap[q]? := (hg5.block q (by omega) fun e => by have := (hrow.kind q e.symm).1; omega).trans (hW9.block q (by omega))
                have hfz : w5.frozen? ⟨q, a, none⟩ = false := by
                  obtain ⟨vs, hv, _⟩ := HG.out.vals
                  exact (hv.keep (hq5.trans (by rw [HH.out]))).frozen a
                have hlt5' : q < w5.heap.size := by omega
                obtain ⟨cv0, hcv0⟩ : ∃ u, w5.cell? ⟨q, a, none⟩ = some u := ⟨_, (World.cell?_of_block (a := ⟨q, a, none⟩) hq5).trans cv⟩
                have hb5 := (hb9.grown hg5 (by omega) fun b hb => by have := (hrow.kind b hb).1; omega).setCell (p := ⟨q, a, none⟩) (Nat.le_refl q) (.slice (some ⟨g', 0, none⟩) (r.length + 1) cap)
                have hz6 : q + 1 ≤ (w5.setCell ⟨q, a, none⟩ (.slice (some ⟨g', 0, none⟩) (r.length + 1) cap)).heap.size := by rw [size_setCell']; omega
                have HG2 := Lib.hid hG5
                clear hG5 HP hown9 hown5 hg5 hat5 hrep row5 hrow hq5
                go_wp2
                go_roundw
                case rel => exact ⟨k + 1, by omega, by go_num, HG2.out, hb5, hz6⟩
                case measure => simp [intOf]; omega
        · obtain rfl : k = n := by omega
          have hgr := HG.out
          rw [show gridAt l a k = gridAt l (a + 1) 0 by rw [← hng, grid_next]] at hgr
          have HG2 := Lib.hid hgr
          clear hgr
          go_wp2
          go_roundw
          case rel => exact ⟨a + 1, by omega, by go_num, HG2.out, hbel, hz⟩
          case measure => simp [intOf]; omega
    · obtain rfl : a = n := by omega
      rw [show gridAt l a 0 = needsS l by rw [← hng, grid_end]] at hgr
      have hS := hgr.sl (by rw [needsS_length]; unfold maxLen; omega)
      rw [needsS_length, hng] at hS
      have HS := Lib.hid hS
      clear hgr hS
      go_wp2
      go_ret
      exact ⟨rfl, HS.out, hbel⟩
end Go.Proofs.Sm
