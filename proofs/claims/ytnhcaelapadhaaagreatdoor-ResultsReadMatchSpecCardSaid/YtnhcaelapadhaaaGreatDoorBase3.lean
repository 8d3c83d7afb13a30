/- A row of the call's own that reads as a list. -/
import Derived.Test.YtnhcaelapadhaaaGreatDoorBase2
import Derived.Deep.AppendLies
namespace Go.Proofs.Sm
open Go.RowKit

theorem flatMap_at {α : Type} {cells : α → List Value} {sz : Nat} (hlen : ∀ x, (cells x).length = sz) : ∀ {l : List α} {i j : Nat} {x : α}, l[i]? = some x → j < sz → (l.flatMap cells)[i * sz + j]? = (cells x)[j]?
  | [], i, j, x, hx, _ => by simp at hx
  | a :: l, 0, j, x, hx, hj => by
    obtain rfl : a = x := by simpa using hx
    rw [List.flatMap_cons, Nat.zero_mul, Nat.zero_add, List.getElem?_append_left (by rw [hlen]; exact hj)]
  | a :: l, i + 1, j, x, hx, hj => by
    have hx' : l[i]? = some x := by simpa using hx
    rw [List.flatMap_cons, List.getElem?_append_right (by rw [hlen, Nat.succ_mul]; omega), hlen, ← flatMap_at hlen hx' hj]
    congr 1
    rw [Nat.succ_mul]
    omega
theorem ownsRow_call {w w' : World} {base : Nat} {e : TypeId} {size : Nat} {v : Value} {n : Nat} {xs : List Value} (h : w.ownsRow base e size v n xs) (hb : Below w.heap.size w w') : w'.ownsRow base e size v n xs :=
  h.kept (row := none) ⟨hb.os, hb.tape, hb.output, hb.size, fun i hi _ => hb.block i hi⟩ (by
    cases v.ownBlock with
    | none => exact .inl rfl
    | some k => exact .inr (by simp))
theorem Sl.of_own {α : Type} [Rep α] {w : World} {base : Nat} {e : TypeId} {v : Value} {l : List α} {cells : α → List Value} (hlen : ∀ x, (cells x).length = Rep.sz α)
    (hrep : ∀ x ∈ l, Rep.rep w (Lt w.heap.size) x (cells x)) (h : w.ownsRow base e (Rep.sz α) v l.length (l.flatMap cells)) :
    ∃ A c, v = .slice A l.length c ∧ l.length ≤ c ∧ c ≤ maxLen ∧ Sl w (Lt w.heap.size) A l.length l := by
  have hcells := fun g hg => h.cells (g := g) hg
  have hlt := h.lt
  obtain ⟨_, h2⟩ := h
  rcases h2 with ⟨rfl, h0⟩ | ⟨g, cap, cur, rfl, hb, hh, hnc, hcm, _, _⟩
  · rw [h0]
    have hl : l = [] := List.eq_nil_of_length_eq_zero h0
    subst hl
    exact ⟨none, 0, rfl, Nat.le_refl _, Nat.zero_le _, Sl.nil⟩
  · refine ⟨some ⟨g, 0, none⟩, cap, rfl, hnc, hcm, rfl, Nat.le_trans hnc hcm, fun hn => ⟨g, 0, rfl, (hlt g rfl).2, fun i x hx => ⟨cells x, hrep x (List.mem_of_getElem? hx), fun j u hu => ?_⟩⟩⟩
    have hj : j < Rep.sz α := by
      have := (List.getElem?_eq_some_iff.1 hu).1
      rw [hlen] at this
      exact this
    have h3 := hcells g rfl (i * Rep.sz α + j) u (by rw [flatMap_at hlen hx hj]; exact hu)
    have e : (⟨g, 0, none⟩ : Addr).add (i * Rep.sz α + j) = ⟨g, 0 + i * Rep.sz α + j, none⟩ := by
      unfold Addr.add
      split
      · rename_i h4
        have h5 : 0 + i * Rep.sz α + j = 0 := by omega
        rw [h5]
      · simp
    rw [e] at h3
    exact h3
end Go.Proofs.Sm
