/- What every walk may take of the package-level variables: they stand below all else and hold what the row lists; it is kept by whatever leaves the first blocks alone. -/
import Derived.Test.YtnhcaelapadhaaaGreatDoorProg
import Derived.Test.YtnhcaelapadhaaaGreatDoorBase
import Derived.Test.YtnhcaelapadhaaaGreatDoorShelf
import Derived.WalkSpells
import Derived.WalkLawsBesides
import Derived.BigQuiet
import Derived.Deep.QuietTactic
import Derived.Outline
import Derived.Deep.DeepFit
import Derived.Deep.LoopGhost
import Derived.Deep.DeepCutAuto
namespace Go.Proofs.Sm
open Go.RowKit

/-- The package-level variables as they stand. -/
structure Env (w : World) : Prop where
  size : 8 ≤ w.heap.size
  most : ∃ m, w.cell? ⟨0, 0, none⟩ = some (.int .i64 m)
  utf8 : Lib.Utf8Tabs 6 7 w
theorem Env.of_heap {w w' : World} (h : Env w) (hs : w.heap.size ≤ w'.heap.size) (hk : ∀ k, k < 8 → w'.heap[k]? = w.heap[k]?) : Env w' where
  size := Nat.le_trans h.size hs
  most := by
    obtain ⟨m, hm⟩ := h.most
    exact ⟨m, (World.cell?_of_block (w := w) (hk _ (by decide))).trans hm⟩
  utf8 := ⟨fun c hc => (World.cell?_of_block (w := w) (hk 6 (by decide))).trans (h.utf8.1 c hc), fun i hi => ⟨(World.cell?_of_block (w := w) (hk 7 (by decide))).trans (h.utf8.2 i hi).1, (World.cell?_of_block (w := w) (hk 7 (by decide))).trans (h.utf8.2 i hi).2⟩⟩
theorem Env.below {B : Nat} {w w' : World} (h : Env w) (hb : Below B w w') (hB : 8 ≤ B) : Env w' := h.of_heap hb.size fun k hk => hb.block k (Nat.lt_of_lt_of_le hk hB)
theorem Env.then_ {w w' : World} (h : Env w) (hb : Below w.heap.size w w') : Env w' := h.below hb h.size
theorem Env.drewN {w : World} (h : Env w) (n : Nat) : Env (w.drewN n) := h.of_heap (Nat.le_refl _) fun _ _ => rfl
theorem Env.alloc {w : World} (h : Env w) (o : Obj) : Env (w.alloc o) := h.then_ ((Below.refl _ _).alloc (Nat.le_refl _) o)
theorem Env.setCell {w : World} (h : Env w) {p : Addr} (hp : 8 ≤ p.block) (u : Value) : Env (w.setCell p u) := h.below ((Below.refl 8 _).setCell hp u) (Nat.le_refl _)

/-- strings.Split at a separator that is not empty: the pieces in a new row. -/
theorem split_any (s sep : ByteArray) (w : World) (hE : Env w) (hs : s.size < 4294967281) (h1 : 1 ≤ sep.size) :
    Calls Tryz.prog 63 #[.string s, .string sep] w fun e w' =>
      e = .returned (.slice (some ⟨w.heap.size, 0, none⟩) (Lib.countB s sep + 1) (Lib.countB s sep + 1)) ∧ w.alloc (.cells ((Lib.splitB sep 0 (Lib.countB s sep) s).map Value.string).toArray 9) = w' := by
  obtain ⟨m, hm⟩ := hE.most
  exact (Tryz.strings_Split s sep m w hs hm h1).mono fun _ _ h => ⟨h.1, h.2.symm⟩
end Go.Proofs.Sm
