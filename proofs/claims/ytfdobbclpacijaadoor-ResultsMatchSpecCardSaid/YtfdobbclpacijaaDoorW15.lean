/- Walks: looks at the same paths in other files. -/
import Derived.Test.YtfdobbclpacijaaDoorW14
import Derived.Test.YtfdobbclpacijaaDoorBase3
namespace Go.Proofs.Sm
open Go.RowKit

def lookCells (x : Look) : List Value := [.string x.path, .string x.digest, .bool x.run]
def looksAtS (l : List Look) (files : List FileV) : List Look := l.map fun x => lookAtS files x.path
theorem digestS_size (l : List UInt8) : (digestS l).size = 16 := by simp [digestS, ByteArray.size]
theorem lookAtS_path (files : List FileV) (p : ByteArray) : (lookAtS files p).path = p := by unfold lookAtS; split <;> rfl
theorem lookAtS_size (files : List FileV) (p : ByteArray) : (lookAtS files p).digest.size ≤ 16 := by
  unfold lookAtS
  split
  · exact Nat.zero_le _
  · rw [digestS_size]; exact Nat.le_refl _
theorem look_info : (Tryd.prog.info? 41).map (fun i => (i.zero, i.size, i.bytes)) = some (some (.agg #[.string ⟨#[]⟩, .string ⟨#[]⟩, .bool false]), 3, 40) := by kernel_rfl

theorem new_cells (w : World) (cs : Array Value) (t : TypeId) : ∀ (j : Nat) u, cs.toList[j]? = some u → (w.alloc (.cells cs t)).cell? ((⟨w.heap.size, 0, none⟩ : Addr).add j) = some u := by
  intro j u hu
  have h0 : (w.alloc (.cells cs t)).heap[w.heap.size]? = some (.cells cs t (0, 0)) := heap_alloc_new w _
  have e : (⟨w.heap.size, 0, none⟩ : Addr).add j = ⟨w.heap.size, j, none⟩ := by
    unfold Addr.add
    split
    · simp [*]
    · simp
  rw [e, World.cell?, h0]
  simpa using hu
theorem oneCell_look (x : Look) : ∀ u ∈ lookCells x, u.oneCell' = true := by
  intro u hu
  simp only [lookCells, List.mem_cons, List.mem_nil_iff, or_false] at hu
  rcases hu with rfl | rfl | rfl <;> rfl
theorem looksAt_own {w : World} {base : Nat} {v : Value} {l : List Look} {files : List FileV} (hl : ∀ x ∈ l, x.path.size ≤ maxLen) (h : w.ownsRow base 41 3 v l.length ((looksAtS l files).flatMap lookCells)) :
    ∃ A c, v = .slice A l.length c ∧ l.length ≤ c ∧ c ≤ maxLen ∧ Sl w (Lt w.heap.size) A l.length (looksAtS l files) := by
  have hlen : (looksAtS l files).length = l.length := by simp [looksAtS]
  rw [← hlen] at h ⊢
  refine Sl.of_own (α := Look) (cells := lookCells) (fun _ => rfl) (fun x hx => ?_) h
  obtain ⟨y, hy, rfl⟩ := List.mem_map.1 hx
  refine ⟨rfl, ?_, ?_⟩
  · rw [lookAtS_path]; exact hl y hy
  · exact Nat.le_trans (lookAtS_size _ _) (by unfold maxLen; decide)
theorem Sl.look_sizes {w : World} {S : Nat → Prop} {A : Option Addr} {n : Nat} {l : List Look} (h : Sl w S A n l) : ∀ x ∈ l, x.path.size ≤ maxLen := by
  intro x hx
  obtain ⟨k, hk⟩ := List.getElem?_of_mem hx
  have hkn : k < n := by
    have := (List.getElem?_eq_some_iff.1 hk).1
    rw [h.1] at this
    exact this
  obtain ⟨_, _, y, _, _, hy, hs, _⟩ := h.look hkn
  rw [hk] at hy
  cases hy
  exact hs

set_option maxHeartbeats 1000000 in
set_option maxRecDepth 100000 in
theorem ref5_LooksAt (A B : Option Addr) (n c m d : Nat) (l : List Look) (files : List FileV) (w : World) (hsl : Sl w (Lt w.heap.size) A n l) (hfs : Sl w (Lt w.heap.size) B m files) (hn : n ≤ 4000) :
    Calls Tryd.prog 20 #[.slice A n c, .slice B m d] w fun e w' => ∃ A' n' c', e = .returned (.slice A' n' c') ∧ n' ≤ c' ∧ c' ≤ maxLen ∧ Sl w' (Lt w'.heap.size) A' n' (looksAtS l files) ∧ Below w.heap.size w w' := by
  obtain ⟨i0, hi0, hz0, hz1, hz2⟩ := info_parts look_info
  go_enter Tryd.func20, Tryd.ntmps20
  go_wp2
  go_loopw [5, 6] (fun v i wr => ∃ k : Nat, k ≤ n ∧ i = .int .i64 k ∧ wr.ownsRow w.heap.size 41 3 v k ((looksAtS (l.take k) files).flatMap lookCells) ∧ Below w.heap.size w wr) (fun _ i _ => n - (intOf i).toNat)
  case atStart => exact ⟨0, Nat.zero_le _, rfl, World.ownsRow_nil _ _ _ _, Below.refl _ _⟩
  case round =>
    obtain ⟨k, hk, rfl, hown, hbel⟩ := hrel
    have hbs := hbel.size
    by_cases hlt : k < n
    · obtain ⟨b, o, x, rfl, hb, hx, hs1, hs2, c0, c1, c2⟩ := (hsl.keep (keep_lt hbel)).look hlt
      have hfr := (hfs.keep (keep_lt hbel)).more (lt_mono hbs)
      have hstep := Lib.hid (show (looksAtS (l.take k) files).flatMap lookCells ++ lookCells (lookAtS files x.path) = (looksAtS (l.take (k + 1)) files).flatMap lookCells by
        unfold looksAtS; rw [List.take_add_one, hx]; simp)
      clear hx
      go_wp2_with fail
      refine (ref5_lookAt B m d files x.path _ hfr).mono ?_
      rintro e w1 ⟨rfl, hb1⟩
      have hown1 := (ownsRow_call hown hb1).alloc (.cells #[.string (lookAtS files x.path).path, .string (lookAtS files x.path).digest, .bool (lookAtS files x.path).run] 41)
      go_wp2_with (at_builtin; refine wpList_append_own _ rfl _ _ 22 rfl w.heap.size 41 i0 _ 3 40 Tryd.underlying22 hi0 hz0 hz1 hz2 rfl (by decide) _ k _ rfl hown1 ⟨w1.heap.size, 0, none⟩ 1 1 (lookCells (lookAtS files x.path)) rfl rfl ?c1 ?c2 ?c3 ?c4 ?c5 ?_)
      case c1 => exact new_cells w1 #[_, _, _] _
      case c2 => exact oneCell_look _
      case c3 => unfold maxLen; omega
      case c4 => omega
      case c5 => exact (fr_alloc (fr_call hbel hb1) _).size
      intro v' w2 hown' hgrow hnil
      rw [hstep.out] at hown'
      have hbel2 := (fr_alloc (fr_call hbel hb1) _).grown hgrow (fr_alloc (fr_call hbel hb1) _).size (fun j hj => (hown.lt j hj).1)
      clear hnil hown1
      go_wp2
      go_round
      case rel => exact ⟨k + 1, by omega, by go_num, hown', hbel2⟩
      case measure => simp [intOf]; omega
    · obtain rfl : k = n := by omega
      have hkl := hsl.1
      have hown2 := Lib.hid (looksAt_own (files := files) hsl.look_sizes (by rw [hkl]; rw [List.take_of_length_le (by omega)] at hown; exact hown))
      have HK := Lib.hid hkl; clear hkl hown
      go_wp2
      go_ret
      obtain ⟨A', c', rfl, h1, h2, h3⟩ := hown2.out
      rw [HK.out] at h1 h3 ⊢
      exact ⟨A', _, c', rfl, h1, h2, h3, hbel⟩
end Go.Proofs.Sm
