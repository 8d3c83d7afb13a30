/- Boxes of the call's own. -/
import Derived.Test.YtnhcaelapadhaaaGreatDoorBase
namespace Go.Proofs.Sm
open Go.RowKit

/-- a box of three cells of the call's own, behind whatever leaves it alone -/
def Box3 (w : World) (g : Nat) (a b c : Value) : Prop :=
  (w.cell? ⟨g, 0, none⟩ = some a ∧ w.cell? ⟨g, 1, none⟩ = some b ∧ w.cell? ⟨g, 2, none⟩ = some c) ∧ (w.frozen? ⟨g, 0, none⟩ = false ∧ w.frozen? ⟨g, 1, none⟩ = false ∧ w.frozen? ⟨g, 2, none⟩ = false) ∧ g < w.heap.size
theorem box3_new (w : World) (a b c : Value) (t : TypeId) : Box3 (w.alloc (.cells #[a, b, c] t)) w.heap.size a b c := by
  have h0 : (w.alloc (.cells #[a, b, c] t)).heap[w.heap.size]? = some (.cells #[a, b, c] t (0, 0)) := heap_alloc_new w _
  refine ⟨⟨?_, ?_, ?_⟩, ⟨?_, ?_, ?_⟩, by simp⟩ <;> (first | rw [World.cell?, h0] | rw [World.frozen?, h0]) <;> rfl
theorem Box3.call {w w1 : World} {g : Nat} {a b c : Value} (h : Box3 w g a b c) (hb : Below w.heap.size w w1) : Box3 w1 g a b c := by
  obtain ⟨⟨h1, h2, h3⟩, ⟨h4, h5, h6⟩, h7⟩ := h
  exact ⟨⟨(hb.cell h7).trans h1, (hb.cell h7).trans h2, (hb.cell h7).trans h3⟩, ⟨(hb.frozen h7).trans h4, (hb.frozen h7).trans h5, (hb.frozen h7).trans h6⟩, Nat.lt_of_lt_of_le h7 hb.size⟩

end Go.Proofs.Sm
