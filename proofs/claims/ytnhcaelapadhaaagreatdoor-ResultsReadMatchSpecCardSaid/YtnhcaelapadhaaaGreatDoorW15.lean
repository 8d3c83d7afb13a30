/- Walks: looks at the same paths in other files. -/
import Derived.Test.YtnhcaelapadhaaaGreatDoorW14
import Derived.Test.YtnhcaelapadhaaaGreatDoorBase3
namespace Go.Proofs.Sm
open Go.RowKit

def lookCells (x : Look) : List Value := [.string x.path, .string x.digest, .bool x.run]
def looksAtS (l : List Look) (files : List FileV) : List Look := l.map fun x => lookAtS files x.path
theorem digestS_size (l : List UInt8) : (digestS l).size = 16 := by simp [digestS, ByteArray.size]
theorem lookAtS_path (files : List FileV) (p : ByteArray) : (lookAtS files p).path = p := by unfold lookAtS; split <;> rfl
theorem lookAtS_size (files : List FileV) (p : ByteArray) : (lookAtS files p).digest.size ≤ 16 := by
  unfold lookAtS
  split
  · exact Nat.zero_le _
  · rw [digestS_size]; exact Nat.le_refl _
theorem look_info : (Tryz.prog.info? 57).map (fun i => (i.zero, i.size, i.bytes)) = some (some (.agg #[.string ⟨#[]⟩, .string ⟨#[]⟩, .bool false]), 3, 40) := by kernel_rfl

theorem new_cells (w : World) (cs : Array Value) (t : TypeId) : ∀ (j : Nat) u, cs.toList[j]? = some u → (w.alloc (.cells cs t)).cell? ((⟨w.heap.size, 0, none⟩ : Addr).add j) = some u := by
  intro j u hu
  have h0 : (w.alloc (.cells cs t)).heap[w.heap.size]? = some (.cells cs t (0, 0)) := heap_alloc_new w _
  have e : (⟨w.heap.size, 0, none⟩ : Addr).add j = ⟨w.heap.size, j, none⟩ := by
    unfold Addr.add
    split
    · simp [*]
    · simp
  rw [e, World.cell?, h0]
  simpa using hu
theorem oneCell_look (x : Look) : ∀ u ∈ lookCells x, u.oneCell' = true := by
  intro u hu
  simp only [lookCells, List.mem_cons, List.mem_nil_iff, or_false] at hu
  rcases hu with rfl | rfl | rfl <;> rfl
theorem looksAt_own {w : World} {base : Nat} {v : Value} {l : List Look} {files : List FileV} (hl : ∀ x ∈ l, x.path.size ≤ maxLen) (h : w.ownsRow base 57 3 v l.length ((looksAtS l files).flatMap lookCells)) :
    ∃ A c, v = .slice A l.length c ∧ l.length ≤ c ∧ c ≤ maxLen ∧ Sl w (Lt w.heap.size) A l.length (looksAtS l files) := by
  have hlen : (looksAtS l files).length = l.length := by simp [looksAtS]
  rw [← hlen] at h ⊢
  refine Sl.of_own (α := Look) (cells := lookCells) (fun _ => rfl) (fun x hx => ?_) h
  obtain ⟨y, hy, rfl⟩ := List.mem_map.1 hx
  refine ⟨rfl, ?_, ?_⟩
  · rw [lookAtS_path]; exact hl y hy
  · exact Nat.le_trans (lookAtS_size _ _) (by unfold maxLen; decide)
theorem Sl.look_sizes {w : World} {S : Nat → Prop} {A : Option Addr} {n : Nat} {l : List Look} (h : Sl w S A n l) : ∀ x ∈ l, x.path.size ≤ maxLen := by
  intro x hx
  obtain ⟨k, hk⟩ := List.getElem?_of_mem hx
  have hkn : k < n := by
    have := (List.getElem?_eq_some_iff.1 hk).1
    rw [h.1] at this
    exact this
  obtain ⟨_, _, y, _, _, hy, hs, _⟩ := h.look hkn
  rw [hk] at hy
  cases hy
  exact hs

end Go.Proofs.Sm
