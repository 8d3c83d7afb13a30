/- A map of the call's own with strings as keys, told by what each key holds (values as they lie). No program is in sight here. -/
import Derived.Test.YtnhcaelapadhaaaGreatDoorBase
import Derived.Maps.OwnOps
import Derived.Maps.OwnSet
namespace Go.Proofs.Sm
open Go.RowKit Go.Maps Go.WideMaps

def raw (v : Value) : Option (DataW Value × List MemPlace) := some (.held v, [])
/-- Block b is a map of at most n entries; a key holds 'f key'. -/
def MapIs (P : Program) (k : TypeId) (w : World) (b n : Nat) (f : List UInt8 → Option Value) : Prop :=
  ∃ D : DataW Value, w.ownsMap P k raw b n D ∧ IsMap D ∧ ∀ key z, D.atKey (.string key) z = match f key with | some v => .held v | none => z

section
variable {P : Program} {k : TypeId} {w w' : World} {b n : Nat} {f : List UInt8 → Option Value}
theorem MapIs.made (w : World) : MapIs P k (w.alloc (.map #[] 0)) w.heap.size 0 (fun _ => none) :=
  ⟨.map [], World.ownsMap_made _ _ _ _, isMap_empty, fun key z => by simp [DataW.atKey]⟩
theorem MapIs.alloc (h : MapIs P k w b n f) (o : Obj) : MapIs P k (w.alloc o) b n f := by
  obtain ⟨D, h1, h2⟩ := h
  exact ⟨D, h1.alloc o, h2⟩
theorem MapIs.keep (h : MapIs P k w b n f) (hk : w'.heap[b]? = w.heap[b]?) : MapIs P k w' b n f := by
  obtain ⟨D, ⟨es, clock, hb, F, h1⟩, h2⟩ := h
  exact ⟨D, ⟨es, clock, hk.trans hb, F, h1⟩, h2⟩
theorem MapIs.lt (h : MapIs P k w b n f) : b < w.heap.size := by
  obtain ⟨D, h1, _⟩ := h
  exact h1.lt
theorem MapIs.call (h : MapIs P k w b n f) (hb : Below w.heap.size w w') : MapIs P k w' b n f := h.keep (hb.block b h.lt)
theorem MapIs.more (h : MapIs P k w b n f) {n' : Nat} (hn : n ≤ n') : MapIs P k w b n' f := by
  obtain ⟨D, h1, h2⟩ := h
  exact ⟨D, h1.mono hn, h2⟩
theorem MapIs.drewN (h : MapIs P k w b n f) (m : Nat) : MapIs P k (w.drewN m) b n f := h.keep rfl
theorem MapIs.setCell (h : MapIs P k w b n f) {p : Addr} (hp : b ≠ p.block) (u : Value) : MapIs P k (w.setCell p u) b n f := h.keep (Below.heap_setCell w p u b hp)

theorem MapIs.look {t e : TypeId} (h : MapIs P k w b n f) (hk : P.underlying k = some .string) (ht : P.underlying t = some (.map k e)) {z : Value} (hz : (zeroValue e).run P w = .ok z w)
    {s : ByteArray} (hs : s.size ≤ maxLen) : (Instr.lookup t (.map (some b)) (.string s) false).run P w = .ok ((f s.data.toList).getD z) w := by
  obtain ⟨D, h1, h2, h3⟩ := h
  obtain ⟨v, ps, hrun, hv⟩ := h1.lookup (string_keyed hk) ht hz (zd := .held z) (zp := []) rfl (kl := .string s.data.toList) (keyOf_string_mk hk hs)
  rw [hrun]
  simp only [raw, h3] at hv
  cases hf : f s.data.toList with
  | none => rw [hf] at hv; simp at hv; simp [hv.1]
  | some u => rw [hf] at hv; simp at hv; simp [hv.1]
theorem MapIs.store {t e : TypeId} (h : MapIs P k w b n f) (hk : P.underlying k = some .string) (ht : P.underlying t = some (.map k e)) (hn : n < maxLen) {s : ByteArray} (hs : s.size ≤ maxLen) (v : Value) :
    ∃ w', (Instr.mapUpdate t (.map (some b)) (.string s) v).run P w = .ok () w' ∧ MapIs P k w' b (n + 1) (fun key => if key = s.data.toList then some v else f key) ∧ w.grownBy w' (some b) := by
  obtain ⟨D, h1, h2, h3⟩ := h
  obtain ⟨w', hrun, hown, hg⟩ := h1.update (string_keyed hk) ht hn (key := .string s) (val := v) (kl := .string s.data.toList) (d := .held v) (ps := []) (keyOf_string_mk hk hs) rfl
  have hkl : WideAt.IsKeyLit (.string s.data.toList) := (string_keyed hk).key (keyOf_string_mk hk hs)
  refine ⟨w', hrun, ⟨_, hown, h2.put _ _, fun key z => ?_⟩, hg⟩
  by_cases he : key = s.data.toList
  · subst he
    rw [atKey_put_same h2 hkl]; simp
  · rw [atKey_put_other (by simpa using he)]
    simp only [if_neg he]
    exact h3 key z
/-- 'm[k] = v' in the walk. -/
theorem wpList_mapUpdate_is (w : World) {ops : Array Oper} {rest : List Oper} {o : Oper} {a : Act} {Q : Exit → Act → World → Prop}
    (hg : o.guard = none) (m x v : Operand) (t : TypeId) (hop : o.op = Op.mapUpdate t m x v) (hk : P.underlying k = some .string) {e : TypeId} (ht : P.underlying t = some (.map k e))
    (hm : a.eval m = .map (some b)) (hmap : MapIs P k w b n f) (hn : n < maxLen) (s : ByteArray) (hs : s.size ≤ maxLen) (val : Value) (hx : a.eval x = .string s) (hv : a.eval v = val)
    (hK : ∀ w', MapIs P k w' b (n + 1) (fun key => if key = s.data.toList then some val else f key) → w.grownBy w' (some b) → wpList P ops Q rest (a.put o.dst undef) w') :
    wpList P ops Q (o :: rest) a w := by
  refine wpList_plain hg fun K' hK' => ?_
  obtain ⟨w', hrun, r1, r2⟩ := hmap.store hk ht hn hs val
  unfold Oper.wp
  simp [execOp, hop, hm, hx, hv, hrun, Result.andThen]
  exact hK' _ _ (hK w' r1 r2)
end
end Go.Proofs.Sm
