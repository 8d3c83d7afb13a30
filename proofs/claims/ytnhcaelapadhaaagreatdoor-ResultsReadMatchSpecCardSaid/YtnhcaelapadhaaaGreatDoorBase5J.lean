/- Rows of the call's own whose elements lead to blocks of one type; blocks that hold a struct. No program is in sight here. -/
import Derived.Test.YtnhcaelapadhaaaGreatDoorBase3
import Derived.Lib.FrozenHead2
import Derived.Lib.UnsafeStr
import Derived.Lib.BufferWrite
import Derived.Deep.AppendLies
namespace Go.Proofs.Sm
open Go.RowKit

theorem addr_add (b o j : Nat) : (⟨b, o, none⟩ : Addr).add j = ⟨b, o + j, none⟩ := by
  unfold Addr.add
  split
  · simp [*]
  · simp
section
variable {P : Program} {w : World}
theorem run_append_nilF (base : Nat) (t ty e : TypeId) (i : TypeInfo) (size c : Nat) (ht : P.underlying t = some (.slice e)) (hi : P.info? e = some i)
    (v : Value) (n : Nat) (xs : List Value) (hown : w.ownsRowF base e size v n xs) : (Builtin.append_ #[t, t] ty #[v, .slice none 0 c]).run P w = .ok v w := by
  rcases hown.2 with ⟨rfl, rfl⟩ | ⟨g, cap, cur, fz, rfl, _, _, _, hnc, _⟩
  · simp [Builtin.append_, run_underlying ht, sizeOf, typeInfo, hi, Builtin.lenOf, Builtin.firstCells]
  · simp [Builtin.append_, run_underlying ht, sizeOf, typeInfo, hi, Builtin.lenOf, Builtin.firstCells, hnc, storeCells]
theorem run_append_nilO (base : Nat) (t ty e : TypeId) (i : TypeInfo) (size c : Nat) (ht : P.underlying t = some (.slice e)) (hi : P.info? e = some i)
    (v : Value) (n : Nat) (xs : List Value) (hown : w.ownsRow base e size v n xs) : (Builtin.append_ #[t, t] ty #[v, .slice none 0 c]).run P w = .ok v w :=
  run_append_nilF base t ty e i size c ht hi v n xs (World.ownsRowF_of hown)
variable {ops : Array Oper} {rest : List Oper} {o : Oper} {a : Act} {Q : Exit → Act → World → Prop}
theorem wpList_append_srcF (hgd : o.guard = none) (s x : Operand) (t : TypeId)
    (ho : o.op = .call { callee := .builtin .append, args := #[s, x], argTypes := #[t, t] })
    (base : Nat) (e : TypeId) (i : TypeInfo) (z : Value) (size bytes : Nat) (ht : P.underlying t = some (.slice e)) (hi : P.info? e = some i) (hz : i.zero = some z)
    (hsize : i.size = size) (hby : i.bytes = bytes) (hzs : z.cells.size = size) (hsz : 0 < size)
    (v : Value) (n : Nat) (xs : List Value) (hs : a.eval s = v) (hown : w.ownsRowF base e size v n xs)
    (A : Option Addr) (m c : Nat) (news : List Value) (hx : a.eval x = .slice A m c) (hl : news.length = m * size) (hnews : 0 < m → ∃ ad, A = some ad ∧ ∀ j u, news[j]? = some u → w.cell? (ad.add j) = some u)
    (h1 : ∀ u ∈ news, u.oneCell' = true) (h63 : n + m ≤ maxLen) (hbytes : (n + m) * bytes ≤ 140737488355328) (hbase : base ≤ w.heap.size)
    (h : ∀ v' w', w'.ownsRowF base e size v' (n + m) (xs ++ news) → w.grownBy w' v.ownBlock → wpList P ops Q rest (a.put o.dst v') w') : wpList P ops Q (o :: rest) a w := by
  rcases A with _ | ad
  · obtain rfl : m = 0 := by
      rcases Nat.eq_zero_or_pos m with h0 | h0
      · exact h0
      · obtain ⟨_, h2, _⟩ := hnews h0
        cases h2
    obtain rfl : news = [] := List.eq_nil_of_length_eq_zero (by simpa using hl)
    refine wpList_plain hgd fun K hK => ?_
    have hrun := run_append_nilF (P := P) (w := w) base t o.type e i size c ht hi v n xs hown
    unfold Oper.wp
    simp [execOp, ho, resolve, invoke, builtin, hs, hx, hrun, Result.andThen]
    exact hK _ _ (h v w (by simpa using hown) (World.grownBy.refl w _))
  · refine wpList_append_ownF w hgd s x t ho base e i z size bytes ht hi hz hsize hby hzs hsz v n xs hs hown ad m c news hx hl ?_ h1 h63 hbytes hbase (fun v' w' h2 h3 _ => h v' w' h2 h3)
    intro j u hu
    have hm : 0 < m := by
      rcases Nat.eq_zero_or_pos m with h0 | h0
      · subst h0
        obtain rfl : news = [] := List.eq_nil_of_length_eq_zero (by simpa using hl)
        simp at hu
      · exact h0
    obtain ⟨_, h2, h3⟩ := hnews hm
    cases h2
    exact h3 j u hu
theorem wpList_append_src (hgd : o.guard = none) (s x : Operand) (t : TypeId)
    (ho : o.op = .call { callee := .builtin .append, args := #[s, x], argTypes := #[t, t] })
    (base : Nat) (e : TypeId) (i : TypeInfo) (z : Value) (size bytes : Nat) (ht : P.underlying t = some (.slice e)) (hi : P.info? e = some i) (hz : i.zero = some z)
    (hsize : i.size = size) (hby : i.bytes = bytes) (hzs : z.cells.size = size) (hsz : 0 < size)
    (v : Value) (n : Nat) (xs : List Value) (hs : a.eval s = v) (hown : w.ownsRow base e size v n xs)
    (A : Option Addr) (m c : Nat) (news : List Value) (hx : a.eval x = .slice A m c) (hl : news.length = m * size) (hnews : 0 < m → ∃ ad, A = some ad ∧ ∀ j u, news[j]? = some u → w.cell? (ad.add j) = some u)
    (h1 : ∀ u ∈ news, u.oneCell' = true) (h63 : n + m ≤ maxLen) (hbytes : (n + m) * bytes ≤ 140737488355328) (hbase : base ≤ w.heap.size)
    (h : ∀ v' w', w'.ownsRow base e size v' (n + m) (xs ++ news) → w.grownBy w' v.ownBlock → wpList P ops Q rest (a.put o.dst v') w') : wpList P ops Q (o :: rest) a w := by
  rcases A with _ | ad
  · obtain rfl : m = 0 := by
      rcases Nat.eq_zero_or_pos m with h0 | h0
      · exact h0
      · obtain ⟨_, h2, _⟩ := hnews h0
        cases h2
    obtain rfl : news = [] := List.eq_nil_of_length_eq_zero (by simpa using hl)
    refine wpList_plain hgd fun K hK => ?_
    have hrun := run_append_nilO (P := P) (w := w) base t o.type e i size c ht hi v n xs hown
    unfold Oper.wp
    simp [execOp, ho, resolve, invoke, builtin, hs, hx, hrun, Result.andThen]
    exact hK _ _ (h v w (by simpa using hown) (World.grownBy.refl w _))
  · refine wpList_append_own w hgd s x t ho base e i z size bytes ht hi hz hsize hby hzs hsz v n xs hs hown ad m c news hx hl ?_ h1 h63 hbytes hbase (fun v' w' h2 h3 _ => h v' w' h2 h3)
    intro j u hu
    have hm : 0 < m := by
      rcases Nat.eq_zero_or_pos m with h0 | h0
      · subst h0
        obtain rfl : news = [] := List.eq_nil_of_length_eq_zero (by simpa using hl)
        simp at hu
      · exact h0
    obtain ⟨_, h2, h3⟩ := hnews hm
    cases h2
    exact h3 j u hu
end
/-- the cells of a slice of bytes -/
theorem sl_byteCells {w : World} {S : Nat → Prop} {A : Option Addr} {n : Nat} {p : List UInt8} (h : Sl w S A n p) (hn : 0 < n) :
    ∃ ad, A = some ad ∧ ∀ j u, (Lib.byteCells p)[j]? = some u → w.cell? (ad.add j) = some u := by
  obtain ⟨q, o, rfl, _, hc⟩ := h.2.2 hn
  refine ⟨_, rfl, fun j u hu => ?_⟩
  simp only [Lib.byteCells, List.getElem?_map, Option.map_eq_some_iff] at hu
  obtain ⟨x, hx, rfl⟩ := hu
  obtain ⟨vs, rfl, ha⟩ := hc j x hx
  have h0 := ha 0 _ rfl
  simp only [Rep.sz, Nat.mul_one, Nat.add_zero] at h0
  rw [addr_add]; exact h0
end Go.Proofs.Sm

namespace Go.Proofs.Sm
open Go.RowKit

def Kind (ty : TypeId) (w : World) (k : Nat) : Prop := ∃ cs fz, w.heap[k]? = some (.cells cs ty fz)
theorem Kind.lt {ty : TypeId} {w : World} {k : Nat} (h : Kind ty w k) : k < w.heap.size := by
  obtain ⟨cs, fz, h⟩ := h
  exact (Array.getElem?_eq_some_iff.1 h).1
theorem Kind.of_keep {ty : TypeId} {w w' : World} (hk : ∀ k, Kind ty w k → w'.heap[k]? = w.heap[k]?) : ∀ k, Kind ty w k → Kind ty w' k := by
  intro k h
  obtain ⟨cs, fz, h1⟩ := h
  exact ⟨cs, fz, (hk k ⟨cs, fz, h1⟩).trans h1⟩
/-- A row of e's of the call's own that reads as a list; its elements lead to blocks of type ty. -/
def RowOwn {α : Type} [Rep α] (w : World) (B : Nat) (e ty : TypeId) (v : Value) (l : List α) : Prop :=
  ∃ rows : List (List Value), rows.length = l.length ∧ w.ownsRow B e (Rep.sz α) v l.length rows.flatten ∧ ∀ (i : Nat) (x : α) (r : List Value), l[i]? = some x → rows[i]? = some r → Rep.rep w (Kind ty w) x r
section
variable {α : Type} [Rep α] {w w' : World} {B : Nat} {e ty : TypeId} {v : Value} {l : List α}
theorem RowOwn.nil : RowOwn w B e ty (.slice none 0 0) ([] : List α) := ⟨[], rfl, World.ownsRow_nil _ _ _ _, fun i x r h => by simp at h⟩
theorem ownsRow_keep {size n : Nat} {xs : List Value} (h : w.ownsRow B e size v n xs) (h2 : ∀ g, v.ownBlock = some g → w'.heap[g]? = w.heap[g]?) : w'.ownsRow B e size v n xs := by
  obtain ⟨h1, h3⟩ := h
  refine ⟨h1, ?_⟩
  rcases h3 with h3 | ⟨g, cap, cur, rfl, hb, hh, h4⟩
  · exact .inl h3
  · exact .inr ⟨g, cap, cur, rfl, hb, (h2 g rfl).trans hh, h4⟩
theorem RowOwn.keep (h : RowOwn w B e ty v l) (h1 : ∀ k, Kind ty w k → w'.heap[k]? = w.heap[k]?) (h2 : ∀ g, v.ownBlock = some g → w'.heap[g]? = w.heap[g]?) : RowOwn w' B e ty v l := by
  obtain ⟨rows, hr, hown, hrep⟩ := h
  exact ⟨rows, hr, ownsRow_keep hown h2, fun i x r hx hri => Rep.more (Kind.of_keep h1) (Rep.keep h1 (hrep i x r hx hri))⟩
theorem ownsRow_kind {size n : Nat} {xs : List Value} (h : w.ownsRow B e size v n xs) : ∀ g, v.ownBlock = some g → B ≤ g ∧ Kind e w g := by
  intro g hg
  rcases h.2 with ⟨rfl, _⟩ | ⟨g', cap, cur, rfl, hb, hh, _⟩
  · simp [Value.ownBlock] at hg
  · obtain rfl : g' = g := by simpa [Value.ownBlock] using hg
    exact ⟨hb, cur, _, hh⟩
theorem RowOwn.kind (h : RowOwn w B e ty v l) : ∀ g, v.ownBlock = some g → B ≤ g ∧ Kind e w g := by
  obtain ⟨rows, _, hown, _⟩ := h
  exact ownsRow_kind hown
theorem RowOwn.call (h : RowOwn w B e ty v l) (hb : Below w.heap.size w w') : RowOwn w' B e ty v l :=
  h.keep (fun k hk => hb.block k hk.lt) (fun g hg => hb.block g (h.kind g hg).2.lt)
theorem RowOwn.alloc (h : RowOwn w B e ty v l) (o : Obj) : RowOwn (w.alloc o) B e ty v l := h.call (fr_alloc (fr_refl w) o)
theorem kind_ne {t1 t2 : TypeId} {k1 k2 : Nat} (h1 : Kind t1 w k1) (h2 : Kind t2 w k2) (h : t1 ≠ t2) : k1 ≠ k2 := by
  rintro rfl
  obtain ⟨c1, f1, e1⟩ := h1
  obtain ⟨c2, f2, e2⟩ := h2
  rw [e1] at e2
  cases e2
  exact h rfl
theorem RowOwn.set {t : TypeId} {p : Addr} (h : RowOwn w B e ty v l) (hp : Kind t w p.block) (he : e ≠ t) (hty : ty ≠ t) (u : Value) : RowOwn (w.setCell p u) B e ty v l :=
  h.keep (fun k hk => heap_setCell_other w p k u (kind_ne hk hp hty)) (fun g hg => heap_setCell_other w p g u (kind_ne (h.kind g hg).2 hp he))
/-- another row grows -/
theorem RowOwn.other {t : TypeId} {row : Option Nat} (h : RowOwn w B e ty v l) (hg : w.grownBy w' row) (hr : ∀ g, row = some g → Kind t w g) (he : e ≠ t) (hty : ty ≠ t) : RowOwn w' B e ty v l := by
  refine h.keep (fun k hk => hg.block k hk.lt fun e2 => ?_) (fun g hg2 => hg.block g (h.kind g hg2).2.lt fun e2 => ?_)
  · exact kind_ne hk (hr k e2.symm) hty rfl
  · exact kind_ne (h.kind g hg2).2 (hr g e2.symm) he rfl
theorem RowOwn.append {rows : List (List Value)} {r : List Value} {x : α} {v' : Value} (hr : rows.length = l.length) (hown : w.ownsRow B e (Rep.sz α) v l.length rows.flatten)
    (hrep : ∀ (i : Nat) (x : α) (r : List Value), l[i]? = some x → rows[i]? = some r → Rep.rep w (Kind ty w) x r) (hx : Rep.rep w (Kind ty w) x r) (hne : ty ≠ e)
    (hg : w.grownBy w' v.ownBlock) (hown' : w'.ownsRow B e (Rep.sz α) v' (l.length + 1) (rows.flatten ++ r)) : RowOwn w' B e ty v' (l ++ [x]) := by
  have h1 : ∀ k, Kind ty w k → w'.heap[k]? = w.heap[k]? := fun k hk => hg.block k hk.lt fun e2 => kind_ne hk (ownsRow_kind hown k e2.symm).2 hne rfl
  refine ⟨rows ++ [r], by simp [hr], ?_, ?_⟩
  · rw [List.length_append, List.length_singleton, List.flatten_append]
    simpa using hown'
  · intro i y s hy hs
    refine Rep.more (Kind.of_keep h1) (Rep.keep h1 ?_)
    by_cases hi : i < l.length
    · rw [List.getElem?_append_left hi] at hy
      rw [List.getElem?_append_left (by omega)] at hs
      exact hrep i y s hy hs
    · have hi2 := (List.getElem?_eq_some_iff.1 hy).1
      rw [List.length_append, List.length_singleton] at hi2
      obtain rfl : i = l.length := by omega
      rw [List.getElem?_append_right (Nat.le_refl _)] at hy
      rw [List.getElem?_append_right (by omega), hr] at hs
      simp at hy hs
      subst hy; subst hs
      exact hx
theorem flatten_at {sz : Nat} : ∀ {rows : List (List Value)} {i j : Nat} {r : List Value}, (∀ r ∈ rows, r.length = sz) → rows[i]? = some r → j < sz → rows.flatten[i * sz + j]? = r[j]?
  | [], i, j, r, _, h, _ => by simp at h
  | a :: rows, 0, j, r, hl, h, hj => by
    obtain rfl : a = r := by simpa using h
    rw [List.flatten_cons, Nat.zero_mul, Nat.zero_add, List.getElem?_append_left (by rw [hl a (by simp)]; exact hj)]
  | a :: rows, i + 1, j, r, hl, h, hj => by
    have h' : rows[i]? = some r := by simpa using h
    have ha := hl a (by simp)
    rw [List.flatten_cons, List.getElem?_append_right (by rw [ha, Nat.succ_mul]; omega), ha, ← flatten_at (fun r hr => hl r (by simp [hr])) h' hj]
    congr 1
    rw [Nat.succ_mul]
    omega
theorem RowOwn.sl (h : RowOwn w B e ty v l) : ∃ A c, v = .slice A l.length c ∧ l.length ≤ c ∧ c ≤ maxLen ∧ Sl w (Lt w.heap.size) A l.length l := by
  obtain ⟨rows, hr, hown, hrep⟩ := h
  have hcells := fun g hg => hown.cells (g := g) hg
  have hlt := hown.lt
  have hlens : ∀ r ∈ rows, r.length = Rep.sz α := by
    intro r hr2
    obtain ⟨i, hi⟩ := List.getElem?_of_mem hr2
    have hi2 := (List.getElem?_eq_some_iff.1 hi).1
    exact Rep.len (hrep i l[i] r (List.getElem?_eq_getElem (by omega)) hi)
  rcases hown.2 with ⟨rfl, h0⟩ | ⟨g, cap, cur, rfl, hb, hh, hnc, hcm, _, _⟩
  · rw [h0]
    have hl : l = [] := List.eq_nil_of_length_eq_zero h0
    subst hl
    exact ⟨none, 0, rfl, Nat.le_refl _, Nat.zero_le _, Sl.nil⟩
  · refine ⟨some ⟨g, 0, none⟩, cap, rfl, hnc, hcm, rfl, Nat.le_trans hnc hcm, fun hn => ⟨g, 0, rfl, (hlt g rfl).2, fun i x hx => ?_⟩⟩
    have hi : i < l.length := (List.getElem?_eq_some_iff.1 hx).1
    have hri : rows[i]? = some (rows[i]'(by omega)) := List.getElem?_eq_getElem (by omega)
    refine ⟨rows[i]'(by omega), Rep.more (fun k hk => hk.lt) (hrep i x _ hx hri), fun j u hu => ?_⟩
    have hj : j < Rep.sz α := by
      have := (List.getElem?_eq_some_iff.1 hu).1
      rw [hlens _ (List.mem_of_getElem? hri)] at this
      exact this
    have h3 := hcells g rfl (i * Rep.sz α + j) u (by rw [flatten_at hlens hri hj]; exact hu)
    rw [addr_add] at h3
    rw [← h3]
    congr 2
    omega
theorem RowOwn.form (h : RowOwn w B e ty v l) : ∃ A c, v = .slice A l.length c := by
  obtain ⟨A, c, h1, _⟩ := h.sl
  exact ⟨A, c, h1⟩
theorem RowOwn.le (h : RowOwn w B e ty v l) : l.length ≤ maxLen := by
  obtain ⟨A, c, _, h1, h2, _⟩ := h.sl
  omega
end
end Go.Proofs.Sm
