/- Walks: what is remembered is put in order by name: the contract of the library's sort. -/
import Derived.Test.YtadokhhgljddkaaGreatDoorH19x10
import Derived.Test.YtadokhhgljddkaaGreatDoorH19x3
import Derived.Test.YtadokhhgljddkaaGreatDoorH19x4
import Derived.Test.YtadokhhgljddkaaGreatDoorH19x2
import Derived.Test.YtadokhhgljddkaaGreatDoorH19x1
import Derived.Shelf.SlSortCmp.WholeK
import Derived.Shelf.SlGeneric
import Derived.Ground.SlsfProg
import Derived.Test.YtadokhhgljddkaaGreatDoorProg
import Derived.Shelf.SlSortCmp.NoneTotal
namespace Go.Proofs.Sm
open Go.RowKit

theorem RowK.lt2 {α : Type} [Rep α] {w : World} {B : Nat} {e : TypeId} {K : Nat → Prop} {v : Value} {l : List α} (h : RowK w B e K v l) : ∀ g, v.ownBlock = some g → g < w.heap.size := fun g hg => (h.kind g hg).2.lt
/-- a slice that reads as a list is handed back -/
def NewS (S : Nat → Prop) (w w' : World) (b : Nat) : Prop := (S b ∨ w.heap.size ≤ b) ∧ b < w'.heap.size
def CopyPost {α : Type} [Rep α] (S : Nat → Prop) (n : Nat) (l : List α) (w : World) (e : Ending) (w' : World) : Prop := ∃ A' c', e = .returned (.slice A' n c') ∧ n ≤ c' ∧ c' ≤ maxLen ∧ Sl w' (NewS S w w') A' n l ∧ Below w.heap.size w w'
theorem CopyPost.mk {α : Type} [Rep α] {S : Nat → Prop} {n c : Nat} {A : Option Addr} {l : List α} {w w' : World} (h1 : n ≤ c) (h2 : c ≤ maxLen) (h3 : Sl w' (NewS S w w') A n l) (h4 : Below w.heap.size w w') : CopyPost S n l w (.returned (.slice A n c)) w' := ⟨A, c, rfl, h1, h2, h3, h4⟩
/-- a row of the call's own, and all that it leads to -/
theorem RowK.slNew {α : Type} [Rep α] {w w' : World} {e : TypeId} {K S : Nat → Prop} {v : Value} {l : List α} (h : RowK w' w.heap.size e K v l) (hK : ∀ k, K k → S k ∨ w.heap.size ≤ k) : ∃ A c, v = .slice A l.length c ∧ l.length ≤ c ∧ c ≤ maxLen ∧ Sl w' (NewS S w w') A l.length l := by
  obtain ⟨A, c, rfl, h1, h2, h3⟩ := h.sl
  refine ⟨A, c, rfl, h1, h2, h3.1, h3.2.1, fun hn => ?_⟩
  obtain ⟨b, o, rfl, hb, hc⟩ := h3.2.2 hn
  have hkb := (h.kind b rfl).1
  obtain ⟨hk, rows, hr, hown, hrep⟩ := h
  have hown' := hown.2
  rcases hown' with ⟨h4, _⟩ | ⟨g, cap, cur, h4, hbg, hh, _⟩
  · cases h4
  · cases h4
    refine ⟨_, 0, rfl, ⟨.inr hkb, hb⟩, fun i x hx => ?_⟩
    have hi : i < l.length := (List.getElem?_eq_some_iff.1 hx).1
    have hri : rows[i]? = some (rows[i]'(by omega)) := List.getElem?_eq_getElem (by omega)
    refine ⟨rows[i]'(by omega), Rep.more (fun k hh => ⟨hK k hh, hk k hh⟩) (hrep i x _ hx hri), fun j u hu => ?_⟩
    have hlens : ∀ r ∈ rows, r.length = Rep.sz α := by
      intro r hr2
      obtain ⟨i, hi⟩ := List.getElem?_of_mem hr2
      have hi2 := (List.getElem?_eq_some_iff.1 hi).1
      exact Rep.len (hrep i l[i] r (List.getElem?_eq_getElem (by omega)) hi)
    have hj : j < Rep.sz α := by
      have := (List.getElem?_eq_some_iff.1 hu).1
      rw [hlens _ (List.mem_of_getElem? hri)] at this
      exact this
    have h5 := hown.cells (g := _) rfl (i * Rep.sz α + j) u (by rw [flatten_at hlens hri hj]; exact hu)
    rw [addr_add] at h5
    rw [← h5]
    congr 2
    omega
set_option maxHeartbeats 1000000 in
set_option maxRecDepth 100000 in
theorem blob_Own (A : Option Addr) (n c : Nat) (l : List FileV) (w : World) (S : Nat → Prop) (hS : ∀ k, S k → k < w.heap.size) (hsl : Sl w S A n l) (hn : n ≤ 1000000) (hbs : ∀ x ∈ l, x.bytes.length ≤ 100000000) :
    Calls Tryz.prog 95 #[.slice A n c] w (CopyPost S n l w) := by
  have hm : n ≤ 9223372036854775807 := by omega
  have HL := Lib.hid hsl.1
  go_enter Tryz.func95, Tryz.ntmps95
  go_wp2_with fail
  refine (clone_file A n c l w S hS hsl (by omega)).mono ?_
  rintro e w1 ⟨v, rfl, hrow, hb1⟩
  obtain ⟨A1, c1, rfl, hc1, hc2, hs1⟩ := hrow.slNew (S := S) fun k hk => .inl hk
  rw [HL.out] at hc1 hs1
  rw [HL.out] at hrow ⊢
  rcases Nat.eq_zero_or_pos n with h0 | h0
  · subst h0
    have HV := Lib.hid hs1
    clear hrow hs1
    go_wp2
    go_loop [9] (fun i => i = .int .i64 0) (fun _ => 0)
    case atStart => rfl
    case round =>
      obtain rfl := hrel
      go_wp2
      go_ret
      exact CopyPost.mk hc1 hc2 HV.out hb1
  · obtain ⟨g, o, rfl, _, _⟩ := hs1.2.2 h0
    obtain ⟨_, rows, _, hown, _⟩ := id hrow
    obtain rfl : o = 0 := by
      rcases hown.2 with ⟨h, _⟩ | ⟨g', cap', cur, h, _⟩
      · cases h
      · cases h; rfl
    have hgb := (hown.lt g rfl).1
    have hgl := (hown.lt g rfl).2
    have hrow0 : RowK w1 w.heap.size 151 (fun b => b ≠ g ∧ NewS S w w1 b) (.slice (some ⟨g, 0, none⟩) n c1) l := hrow.more (fun k hk => ⟨by have := hS k hk; omega, .inl hk, Nat.lt_of_lt_of_le (hS k hk) hb1.size⟩) fun k hk => hk.2.2
    clear hrow hs1 hown
    go_wp2
    go_loopw [9] (fun i wx => ∃ k : Nat, k ≤ n ∧ i = .int .i64 k ∧ RowK wx w.heap.size 151 (fun b => b ≠ g ∧ NewS S w wx b) (.slice (some ⟨g, 0, none⟩) n c1) l ∧ g < wx.heap.size ∧ Below w.heap.size w wx) (fun i _ => n - (intOf i).toNat)
    case atStart => exact ⟨0, Nat.zero_le _, rfl, hrow0, hgl, hb1⟩
    case round =>
      clear hrow0 hgl hb1
      obtain ⟨k, hk, rfl, hrow, hgl, hbel⟩ := hrel
      by_cases hlt : k < n
      · obtain ⟨x, hx⟩ := at_lt (l := l) (k := k) (by rw [HL.out]; exact hlt)
        obtain ⟨r, hr, hc⟩ := hrow.elem hx
        obtain ⟨hxp, A2, n2, c2, rfl, h21, h22, hs2⟩ := hr
        have c0 := hc 2 _ rfl
        have hc0 : wr.cell? ⟨g, k * 3 + 2, none⟩ = some (.slice A2 n2 c2) := c0
        have hkI : (k : Int) < (n : Int) := by omega
        have hn2 : n2 ≤ 100000000 := by have := hbs x (List.mem_of_getElem? hx); rw [hs2.1] at this; exact this
        have hs2' : Sl wr (Lt wr.heap.size) A2 n2 x.bytes := hs2.more fun k hk => hk.2.2
        have HX := Lib.hid hx
        clear hx hc c0
        go_wp2_with fail
        refine (clone_byte A2 n2 c2 x.bytes wr (Lt wr.heap.size) (fun _ h => h) hs2' hn2).mono ?_
        rintro e w2 ⟨v2, rfl, hrow2, hb2⟩
        obtain ⟨A3, c3, rfl, h31, h32, hs3⟩ := (hrow2.flat flat_byte).slFrom
        have hrow3 : RowK w2 w.heap.size 151 (fun b => b ≠ g ∧ NewS S w w2 b) (.slice (some ⟨g, 0, none⟩) n c1) l := (hrow.call hb2).more (fun b hb => ⟨hb.1, hb.2.1, Nat.lt_of_lt_of_le hb.2.2 hb2.size⟩) fun b hb => hb.2.2
        have hs3' : Sl w2 (fun b => b ≠ g ∧ NewS S w w2 b) A3 x.bytes.length x.bytes := hs3.more fun b hb => ⟨by omega, .inr (Nat.le_trans hbel.size hb.1), hb.2⟩
        have hnew := hrow3.setElem (j := 2) (u := .slice A3 x.bytes.length c3) (fun h => h.1 rfl) HX.out (by decide) fun r hr => by
          obtain ⟨h0, A4, n4, c4, rfl, h1, h2, h3⟩ := hr
          exact ⟨h0, A3, _, c3, rfl, h31, h32, hs3'⟩
        have hf := hrow3.frozenAt (k * 3 + 2)
        have hgl2 : g < w2.heap.size := Nat.lt_of_lt_of_le hgl hb2.size
        have hc3 : w2.cell? ⟨g, k * 3 + 2, none⟩ = some (.slice A2 n2 c2) := (hb2.cell hgl).trans hc0
        have hnew2 : RowK (w2.setCell ⟨g, k * 3 + 2, none⟩ (.slice A3 x.bytes.length c3)) w.heap.size 151 (fun b => b ≠ g ∧ NewS S w (w2.setCell ⟨g, k * 3 + 2, none⟩ (.slice A3 x.bytes.length c3)) b) (.slice (some ⟨g, 0, none⟩) n c1) l := hnew.more (fun b hb => ⟨hb.1, hb.2.1, by rw [size_setCell']; exact hb.2.2⟩) fun b hb => hb.2.2
        have HN := Lib.hid hnew2
        have hbel2 := (fr_call hbel hb2).setCell (p := ⟨g, k * 3 + 2, none⟩) hgb (.slice A3 x.bytes.length c3)
        clear hrow hrow2 hrow3 hs3 hs3' hnew hnew2 hs2 hs2' hc0 hb2
        go_wp2
        go_roundw
        case rel => exact ⟨k + 1, by omega, by go_num, HN.out, by rw [size_setCell']; exact hgl2, hbel2⟩
        case measure => simp [intOf]; omega
      · have HS := Lib.hid (show Sl wr (NewS S w wr) (some ⟨g, 0, none⟩) n l by
          obtain ⟨A', c', h1, _, _, h4⟩ := hrow.slNew (S := S) fun k hk => hk.2.1
          rw [HL.out] at h1 h4
          cases h1
          exact h4)
        clear hrow
        go_wp2
        go_ret
        exact CopyPost.mk hc1 hc2 HS.out hbel
set_option maxHeartbeats 1000000 in
set_option maxRecDepth 100000 in
theorem clone_looks (A : Option Addr) (n c : Nat) (l : List Look) (w : World) (S : Nat → Prop) (hS : ∀ k, S k → k < w.heap.size) (hsl : Sl w S A n l) (hn : n ≤ 100000000) :
    Calls Tryz.prog 62 #[.slice A n c] w (CopyPost S n l w) := by
  have hl := hsl.1
  refine (clone_look A n c l w S hS hsl hn).mono ?_
  rintro e w1 ⟨v, rfl, hrow, hb⟩
  obtain ⟨A1, c1, rfl, h1, h2, h3⟩ := hrow.slNew (S := S) fun k hk => .inl hk
  rw [hl] at h1 h3 ⊢
  exact CopyPost.mk h1 h2 h3 hb
/-- a result as it is read in blocks of S -/
structure ResS (w : World) (S : Nat → Prop) (r : ResultV) (A : Option Addr) (n : Nat) (B : Option Addr) (m : Nat) : Prop where
  code : InInt r.code
  text : r.text.size ≤ maxLen
  files : Sl w S A n r.files
  looks : Sl w S B m r.looks
  command : InInt r.command
/-- a result that is a copy -/
def ResPost (S : Nat → Prop) (r : ResultV) (w : World) (e : Ending) (w' : World) : Prop := ∃ A n c B m d, e = .returned (resVal r A n c B m d) ∧ (n ≤ c ∧ c ≤ maxLen ∧ m ≤ d ∧ d ≤ maxLen) ∧ ResS w' (NewS S w w') r A n B m ∧ Below w.heap.size w w'
end Go.Proofs.Sm

namespace Go.Proofs.Sm
open Go.RowKit

theorem res_box (w : World) (r : ResultV) (A : Option Addr) (n c : Nat) (B : Option Addr) (m d : Nat) :
    Arr (w.alloc (.cells #[.int .i64 r.code, .string r.text, .slice A n c, .slice B m d, .int .i64 r.command] 66)) w.heap.size 66 [.int .i64 r.code, .string r.text, .slice A n c, .slice B m d, .int .i64 r.command] := heap_alloc_new w _
theorem ResPost.mk {S : Nat → Prop} {r : ResultV} {A B : Option Addr} {n c m d : Nat} {w w' : World} (h : n ≤ c ∧ c ≤ maxLen ∧ m ≤ d ∧ d ≤ maxLen) (h2 : ResS w' (NewS S w w') r A n B m) (h3 : Below w.heap.size w w') : ResPost S r w (.returned (.agg #[.int .i64 r.code, .string r.text, .slice A n c, .slice B m d, .int .i64 r.command])) w' := ⟨A, n, c, B, m, d, rfl, h, h2, h3⟩
theorem NewS.mono {S : Nat → Prop} {w w1 w2 : World} (h : w1.heap.size ≤ w2.heap.size) : ∀ k, NewS S w w1 k → NewS S w w2 k := fun _ hk => ⟨hk.1, Nat.lt_of_lt_of_le hk.2 h⟩
/-- what was copied out of a box still stands where the box is written -/
theorem res_end {S : Nat → Prop} {w W w2 w3 V : World} {r : ResultV} {A2 A3 : Option Addr} {n c2 m c3 g : Nat} (hr : InInt r.code ∧ r.text.size ≤ maxLen ∧ InInt r.command) (hS : ∀ k, S k → k < w.heap.size) (hg : w.heap.size ≤ g) (hgW : g + 1 < W.heap.size) (hb0 : Below w.heap.size w W) (hb2 : Below W.heap.size W w2) (hs2 : Sl w2 (NewS S W w2) A2 n r.files)
    (hb3 : Below w2.heap.size w2 w3) (hs3 : Sl w3 (NewS S w2 w3) A3 m r.looks) (hV : V.heap.size = w3.heap.size) (hk : ∀ b, b ≠ g → b ≠ g + 1 → V.heap[b]? = w3.heap[b]?) (hbV : Below w.heap.size w V) (h : n ≤ c2 ∧ c2 ≤ maxLen ∧ m ≤ c3 ∧ c3 ≤ maxLen) :
    ResPost S r w (.returned (.agg #[.int .i64 r.code, .string r.text, .slice A2 n c2, .slice A3 m c3, .int .i64 r.command])) V := by
  have hz2 := hb2.size
  have hz3 := hb3.size
  have hz0 := hb0.size
  refine ResPost.mk h ⟨hr.1, hr.2.1, ?_, ?_, hr.2.2⟩ hbV
  · have h1 : Sl V (NewS S W w2) A2 n r.files := hs2.keep fun k hk2 => by
      have hkg : k ≠ g ∧ k ≠ g + 1 := by
        rcases hk2.1 with h1 | h1
        · have := hS k h1; exact ⟨by omega, by omega⟩
        · exact ⟨by omega, by omega⟩
      exact (hk k hkg.1 hkg.2).trans (hb3.block k hk2.2)
    exact h1.more fun k hk2 => ⟨hk2.1.imp id fun h => by omega, by have := hk2.2; omega⟩
  · have h1 : Sl V (NewS S w2 w3) A3 m r.looks := hs3.keep fun k hk2 => by
      have hkg : k ≠ g ∧ k ≠ g + 1 := by
        rcases hk2.1 with h1 | h1
        · have := hS k h1; exact ⟨by omega, by omega⟩
        · exact ⟨by omega, by omega⟩
      exact hk k hkg.1 hkg.2
    exact h1.more fun k hk2 => ⟨hk2.1.imp id fun h => by omega, by have := hk2.2; omega⟩
set_option maxHeartbeats 2000000 in
set_option maxRecDepth 100000 in
theorem steps_ownResult (r : ResultV) (A : Option Addr) (n c : Nat) (B : Option Addr) (m d : Nat) (w : World) (S : Nat → Prop) (hS : ∀ k, S k → k < w.heap.size) (hr : ResS w S r A n B m) (hn : n ≤ 1000000) (hm : m ≤ 1000000) (hbs : ∀ x ∈ r.files, x.bytes.length ≤ 100000000) :
    Calls Tryz.prog 63 #[resVal r A n c B m d] w (ResPost S r w) := by
  unfold resVal
  go_enter Tryz.func63, Tryz.ntmps63
  go_wp2_with fail
  generalize hW : (w.alloc (.cells #[.int .i64 r.code, .string r.text, .slice A n c, .slice B m d, .int .i64 r.command] 66)).alloc (.cells #[.int .i64 0, .string ⟨#[]⟩, .slice none 0 0, .slice none 0 0, .int .i64 0] 66) = W
  have hX : Arr W w.heap.size 66 [.int .i64 r.code, .string r.text, .slice A n c, .slice B m d, .int .i64 r.command] := by rw [← hW]; exact (res_box w r A n c B m d).call (fr_alloc (fr_refl _) _)
  have hY : Arr W (w.heap.size + 1) 66 [.int .i64 0, .string ⟨#[]⟩, .slice none 0 0, .slice none 0 0, .int .i64 0] := by
    rw [← hW]
    have := heap_alloc_new (w.alloc (.cells #[.int .i64 r.code, .string r.text, .slice A n c, .slice B m d, .int .i64 r.command] 66)) (.cells #[.int .i64 0, .string ⟨#[]⟩, .slice none 0 0, .slice none 0 0, .int .i64 0] 66)
    rw [World.size_alloc] at this
    exact this
  have hb0 : Below w.heap.size w W := by rw [← hW]; exact fr_alloc (fr_alloc (fr_refl w) _) _
  clear hW
  obtain ⟨g, hg⟩ : ∃ g, g = w.heap.size := ⟨_, rfl⟩
  rw [← hg] at hX hY ⊢
  have hgl : w.heap.size ≤ g := by omega
  clear hg
  have hgW := hY.lt
  have hSW : ∀ k, S k → k < W.heap.size := fun k hk => Nat.lt_of_lt_of_le (hS k hk) hb0.size
  have hK : ∀ k, S k → W.heap[k]? = w.heap[k]? := fun k hk => hb0.block k (hS k hk)
  have hr1 : InInt r.code ∧ r.text.size ≤ maxLen ∧ InInt r.command := ⟨hr.code, hr.text, hr.command⟩
  have HO := Lib.hid (blob_Own A n c r.files W.drew S hSW ((hr.files.keep hK).keep fun _ _ => rfl) hn hbs)
  have HC := Lib.hid (fun (w2 : World) (hb : Below W.heap.size W w2) => clone_looks B m d r.looks w2 S (fun k hk => Nat.lt_of_lt_of_le (hSW k hk) hb.size) ((hr.looks.keep hK).keep fun k hk => hb.block k (hSW k hk)) (by omega))
  have x2 := hX.cell (i := 2) rfl
  have x3 := hX.cell (i := 3) rfl
  have hgg : g < W.heap.size := by omega
  clear hK
  go_region_law (first
    | (go_simp; go_at_call 95; refine HO.out.mono ?_; rintro e w2 ⟨A2, c2, rfl, h21, h22, hs2, hb2⟩
       have hb2' : Below W.heap.size W w2 := of_drew hb2
       have hX2 := hX.call hb2'
       have x22 := hX2.cell (i := 2) rfl
       have x23 := hX2.cell (i := 3) rfl)
    | (go_simp; go_at_call 62; refine (HC.out w2 hb2').mono ?_; rintro e w3 ⟨A3, c3, rfl, h31, h32, hs3, hb3⟩
       have hX3 := hX2.call hb3
       have x32 := hX3.cell (i := 2) rfl
       have x33 := hX3.cell (i := 3) rfl
       have f32 := hX3.frozen 2
       have f33 := hX3.frozen 3))
  all_goals
    obtain ⟨V, hV⟩ : ∃ V, V = (w3.setCell ⟨g, 2, none⟩ (.slice A2 n c2)).setCell ⟨g, 3, none⟩ (.slice A3 m c3) := ⟨_, rfl⟩
    rw [← hV]
    have hXV : Arr V g 66 [.int .i64 r.code, .string r.text, .slice A2 n c2, .slice A3 m c3, .int .i64 r.command] := by rw [hV]; exact (hX3.set 2 _).set 3 _
    have hYV : Arr V (g + 1) 66 [.int .i64 0, .string ⟨#[]⟩, .slice none 0 0, .slice none 0 0, .int .i64 0] := by rw [hV]; exact (((hY.call hb2').call hb3).other (by show g + 1 ≠ g; omega) _).other (by show g + 1 ≠ g; omega) _
    have hVs : V.heap.size = w3.heap.size := by rw [hV, size_setCell', size_setCell']
    have hVk : ∀ b, b ≠ g → V.heap[b]? = w3.heap[b]? := fun b hb => by rw [hV, heap_setCell_other _ _ _ _ hb, heap_setCell_other _ _ _ _ hb]
    have hbV : Below w.heap.size w V := by
      rw [hV]
      exact ((fr_call (fr_call hb0 hb2') hb3).setCell (p := ⟨g, 2, none⟩) hgl _).setCell (p := ⟨g, 3, none⟩) hgl _
    clear hV x2 x3 x22 x23 x32 x33 f32 f33 hX hX2 hX3 hY
    have c0 := hXV.cell (i := 0) rfl
    have c1 := hXV.cell (i := 1) rfl
    have c4 := hXV.cell (i := 2) rfl
    have c5 := hXV.cell (i := 3) rfl
    have c6 := hXV.cell (i := 4) rfl
    have hVg := hYV.lt
    have d0 := hYV.cell (i := 0) rfl
    have d1 := hYV.cell (i := 1) rfl
    have d2 := hYV.cell (i := 2) rfl
    have d3 := hYV.cell (i := 3) rfl
    have d4 := hYV.cell (i := 4) rfl
    have e0 := hYV.frozen 0
    have e1 := hYV.frozen 1
    have e2 := hYV.frozen 2
    have e3 := hYV.frozen 3
    have e4 := hYV.frozen 4
    go_wp2
    obtain ⟨V2, hV2⟩ : ∃ V2, V2 = ((((V.setCell ⟨g + 1, 0, none⟩ (.int .i64 r.code)).setCell ⟨g + 1, 1, none⟩ (.string r.text)).setCell ⟨g + 1, 2, none⟩ (.slice A2 n c2)).setCell ⟨g + 1, 3, none⟩ (.slice A3 m c3)).setCell ⟨g + 1, 4, none⟩ (.int .i64 r.command) := ⟨_, rfl⟩
    rw [← hV2]
    have hZ : Arr V2 (g + 1) 66 [.int .i64 r.code, .string r.text, .slice A2 n c2, .slice A3 m c3, .int .i64 r.command] := by rw [hV2]; exact ((((hYV.set 0 _).set 1 _).set 2 _).set 3 _).set 4 _
    have hs : V2.heap.size = w3.heap.size := by rw [hV2, size_setCell', size_setCell', size_setCell', size_setCell', size_setCell', hVs]
    have hk2 : ∀ b, b ≠ g → b ≠ g + 1 → V2.heap[b]? = w3.heap[b]? := fun b h1 h2 => by
      rw [hV2, heap_setCell_other _ _ _ _ h2, heap_setCell_other _ _ _ _ h2, heap_setCell_other _ _ _ _ h2, heap_setCell_other _ _ _ _ h2, heap_setCell_other _ _ _ _ h2]
      exact hVk b h1
    have hgl1 : w.heap.size ≤ g + 1 := by omega
    have hb2V : Below w.heap.size w V2 := by
      rw [hV2]
      exact ((((hbV.setCell (p := ⟨g + 1, 0, none⟩) hgl1 _).setCell (p := ⟨g + 1, 1, none⟩) hgl1 _).setCell (p := ⟨g + 1, 2, none⟩) hgl1 _).setCell (p := ⟨g + 1, 3, none⟩) hgl1 _).setCell (p := ⟨g + 1, 4, none⟩) hgl1 _
    have HE := Lib.hid (res_end (c2 := c2) (c3 := c3) hr1 hS hgl hgW hb0 hb2' hs2 hb3 hs3 hs hk2 hb2V ⟨h21, h22, h31, h32⟩)
    clear hV2 hk2 hs hb2V hVk hVs hbV hs2 hs3
    have z0 := hZ.cell (i := 0) rfl
    have z1 := hZ.cell (i := 1) rfl
    have z2 := hZ.cell (i := 2) rfl
    have z3 := hZ.cell (i := 3) rfl
    have z4 := hZ.cell (i := 4) rfl
    refine bodyPost_ret (v := .agg #[.int .i64 r.code, .string r.text, .slice A2 n c2, .slice A3 m c3, .int .i64 r.command]) (by simp [results, Tryz.results63, go_sem, z0, z1, z2, z3, z4]) rfl ?_
    exact HE.out
end Go.Proofs.Sm

namespace Go.Proofs.Sm
open Go.RowKit

/-- what is remembered is not too great to be copied -/
def MemOk (m : MemoryV) : Prop := m.looks.length ≤ 1000000 ∧ m.result.files.length ≤ 1000000 ∧ m.result.looks.length ≤ 1000000 ∧ ∀ x ∈ m.result.files, x.bytes.length ≤ 100000000
theorem looks_many {l : List Look} (h : checkLooksS l = 0) : l.length ≤ 4000 := by
  unfold checkLooksS at h
  split at h
  · cases h
  · omega
theorem mem_parts {m : MemoryV} (h : checkMemS m = 0) : isPathS m.name = true ∧ isDigestS m.action = true ∧ checkLooksS m.looks = 0 ∧ checkResultS m.result = 0 ∧ m.result.code = 0 ∧ sameLooksS m.looks m.result.looks = true := by
  unfold checkMemS at h
  split at h
  · cases h
  rename_i h1
  split at h
  · rename_i h2; exact absurd h h2
  rename_i h2
  split at h
  · rename_i h3; exact absurd h h3
  rename_i h3
  split at h
  · cases h
  rename_i h4
  split at h
  · cases h
  rename_i h5
  have h1' : isPathS m.name = true ∧ isDigestS m.action = true := by simpa using h1
  exact ⟨h1'.1, h1'.2, by simpa using h2, by simpa using h3, by simpa using h4, by simpa using h5⟩
theorem result_parts {r : ResultV} (h : checkResultS r = 0) : checkFilesS r.files = 0 ∧ checkLooksS r.looks = 0 := by
  unfold checkResultS at h
  split at h
  · cases h
  split at h
  · cases h
  split at h
  · cases h
  split at h
  · rename_i h1; exact absurd h h1
  rename_i h1
  split at h
  · cases h
  exact ⟨by simpa using h1, h⟩
theorem mem_ok {m : MemoryV} (h : checkMemS m = 0) : MemOk m := by
  obtain ⟨_, _, h1, h2, _, _⟩ := mem_parts h
  obtain ⟨h3, h4⟩ := result_parts h2
  have a := looks_many h1
  have b := looks_many h4
  have c := (checkFiles_err h3).1
  exact ⟨by omega, by omega, by omega, fun x hx => by have := (files_sizes h3 x hx).2; omega⟩
theorem memory_parts {l : List MemoryV} (h : checkMemoryS l = 0) : l.length ≤ 500 ∧ ∀ m ∈ l, checkMemS m = 0 := by
  unfold checkMemoryS at h
  split at h
  · cases h
  · refine ⟨by omega, fun m hm => ?_⟩
    obtain ⟨k, hk⟩ := List.getElem?_of_mem hm
    have h1 := listErr_at h k m hk
    unfold memErr at h1
    split at h1
    · rename_i h2; exact absurd h1 h2
    · rename_i h2; simpa using h2
theorem memory_ok {l : List MemoryV} (h : checkMemoryS l = 0) : ∀ m ∈ l, MemOk m := fun m hm => mem_ok ((memory_parts h).2 m hm)
def namesOf (l : List MemoryV) : List (List UInt8) := l.map fun m => m.name.data.toList
/-- whose name is not among these -/
def newTo (la : List MemoryV) (m : MemoryV) : Bool := !decide (m.name.data.toList ∈ namesOf la)
def bothS (la lb : List MemoryV) : List MemoryV := la ++ lb.filter (newTo la)
def joinedErr (la lb : List MemoryV) : Int := if checkMemoryS la ≠ 0 then checkMemoryS la else if checkMemoryS lb ≠ 0 then checkMemoryS lb else if 500 < ((bothS la lb).length : Int) then 2 else 0
/-- what two remember, by name -/
def JoinedIs (la lb out : List MemoryV) : Prop := out.Perm (bothS la lb) ∧ ∀ (i j : Nat) (x y : MemoryV), i < j → out[i]? = some x → out[j]? = some y → ltS y.name x.name = false
theorem namesOf_more {l : List MemoryV} {k : Nat} {x : MemoryV} (hx : l[k]? = some x) : namesOf (l.take (k + 1)) = namesOf (l.take k) ++ [x.name.data.toList] := by rw [namesOf, List.take_add_one, hx, List.map_append]; rfl
theorem filter_take {l : List MemoryV} {p : MemoryV → Bool} {k : Nat} {x : MemoryV} (hx : l[k]? = some x) : (l.take (k + 1)).filter p = (l.take k).filter p ++ if p x = true then [x] else [] := by
  rw [List.take_add_one, hx, List.filter_append]
  simp [List.filter_cons]
end Go.Proofs.Sm

namespace Go.Proofs.Sm
open Go.RowKit

theorem sl_far {α : Type} [Rep α] {w : World} {K : Nat → Prop} {A : Option Addr} {n g i : Nat} {l : List α} {u : Value} (h : Sl w K A n l) (hg : ¬ K g) : Sl (w.setCell ⟨g, i, none⟩ u) K A n l :=
  h.keep fun k hk => heap_setCell_other w ⟨g, i, none⟩ k u (by rintro rfl; exact hg hk)
theorem memory_set {w : World} {B g n cap k n2 c2 n3 c3 n4 c4 : Nat} {e : TypeId} {K : Nat → Prop} {l : List MemoryV} {x : MemoryV} {A2 A3 A4 : Option Addr} (h : RowK w B e K (.slice (some ⟨g, 0, none⟩) n cap) l) (hg : ¬ K g) (hi : l[k]? = some x)
    (s2 : Sl w K A2 n2 x.looks) (s3 : Sl w K A3 n3 x.result.files) (s4 : Sl w K A4 n4 x.result.looks) (hc : n2 ≤ c2 ∧ c2 ≤ maxLen ∧ n3 ≤ c3 ∧ c3 ≤ maxLen ∧ n4 ≤ c4 ∧ c4 ≤ maxLen) :
    RowK ((((((w.setCell ⟨g, k * 8 + 2, none⟩ (.slice A2 n2 c2)).setCell ⟨g, k * 8 + 3, none⟩ (.int .i64 x.result.code)).setCell ⟨g, k * 8 + 4, none⟩ (.string x.result.text)).setCell ⟨g, k * 8 + 5, none⟩ (.slice A3 n3 c3)).setCell ⟨g, k * 8 + 6, none⟩ (.slice A4 n4 c4)).setCell ⟨g, k * 8 + 7, none⟩ (.int .i64 x.result.command)) B e K (.slice (some ⟨g, 0, none⟩) n cap) l := by
  have h2 := h.setElem (j := 2) (u := .slice A2 n2 c2) hg hi (by decide) fun r hr => by
    obtain ⟨A, n, c, B, m, d, C, p, q, rfl, a1, a2, b1, b2, b3⟩ := hr
    exact ⟨A2, n2, c2, B, m, d, C, p, q, rfl, a1, ⟨hc.1, hc.2.1, a2.2.2⟩, s2, b2, b3⟩
  have h3 := h2.setElem (j := 3) (u := .int .i64 x.result.code) hg hi (by decide) fun r hr => by
    obtain ⟨A, n, c, B, m, d, C, p, q, rfl, a1, a2, b⟩ := hr
    exact ⟨A, n, c, B, m, d, C, p, q, rfl, a1, a2, b⟩
  have h4 := h3.setElem (j := 4) (u := .string x.result.text) hg hi (by decide) fun r hr => by
    obtain ⟨A, n, c, B, m, d, C, p, q, rfl, a1, a2, b⟩ := hr
    exact ⟨A, n, c, B, m, d, C, p, q, rfl, a1, a2, b⟩
  have h5 := h4.setElem (j := 5) (u := .slice A3 n3 c3) hg hi (by decide) fun r hr => by
    obtain ⟨A, n, c, B, m, d, C, p, q, rfl, a1, a2, b1, b2, b3⟩ := hr
    exact ⟨A, n, c, A3, n3, c3, C, p, q, rfl, a1, ⟨a2.1, a2.2.1, hc.2.2.1, hc.2.2.2.1, a2.2.2.2.2⟩, b1, sl_far (sl_far (sl_far s3 hg) hg) hg, b3⟩
  have h6 := h5.setElem (j := 6) (u := .slice A4 n4 c4) hg hi (by decide) fun r hr => by
    obtain ⟨A, n, c, B, m, d, C, p, q, rfl, a1, a2, b1, b2, b3⟩ := hr
    exact ⟨A, n, c, B, m, d, A4, n4, c4, rfl, a1, ⟨a2.1, a2.2.1, a2.2.2.1, a2.2.2.2.1, hc.2.2.2.2⟩, b1, b2, sl_far (sl_far (sl_far (sl_far s4 hg) hg) hg) hg⟩
  exact h6.setElem (j := 7) (u := .int .i64 x.result.command) hg hi (by decide) fun r hr => by
    obtain ⟨A, n, c, B, m, d, C, p, q, rfl, a1, a2, b⟩ := hr
    exact ⟨A, n, c, B, m, d, C, p, q, rfl, a1, a2, b⟩
theorem newS_more {S : Nat → Prop} {w w1 w1' w2 w3 : World} {g b : Nat} (h : NewS (fun b => b ≠ g ∧ NewS S w w1 b) w1' w2 b) (h1 : w1.heap.size ≤ w1'.heap.size) (hg : g < w1.heap.size) (hw : w.heap.size ≤ w1.heap.size) (h3 : w2.heap.size ≤ w3.heap.size) : b ≠ g ∧ NewS S w w3 b := by
  have h2 := h.2
  rcases h.1 with h4 | h4
  · exact ⟨h4.1, h4.2.1, by omega⟩
  · exact ⟨by omega, .inr (by omega), by omega⟩
set_option maxHeartbeats 4000000 in
set_option maxRecDepth 100000 in
theorem steps_own (A : Option Addr) (n c : Nat) (l : List MemoryV) (w : World) (S : Nat → Prop) (hS : ∀ k, S k → k < w.heap.size) (hsl : Sl w S A n l) (hn : n ≤ 1000000) (hok : ∀ m ∈ l, MemOk m) :
    Calls Tryz.prog 28 #[.slice A n c] w fun e w' => ∃ v, e = .returned v ∧ RowK w' w.heap.size 68 (fun b => v.ownBlock ≠ some b ∧ NewS S w w' b) v l ∧ Below w.heap.size w w' := by
  have hm : n ≤ 9223372036854775807 := by omega
  have HL := Lib.hid hsl.1
  go_enter Tryz.func28, Tryz.ntmps28
  go_wp2_with fail
  refine (clone_memory A n c l w S hS hsl (by omega)).mono ?_
  rintro e w1 ⟨v, rfl, hrow, hb1⟩
  obtain ⟨A1, c1, rfl, hc1, hc2, hs1⟩ := hrow.slNew (S := S) fun k hk => .inl hk
  rw [HL.out] at hc1 hs1
  rw [HL.out] at hrow ⊢
  have hrow0 : RowK w1 w.heap.size 68 (fun b => (Value.slice A1 n c1).ownBlock ≠ some b ∧ NewS S w w1 b) (.slice A1 n c1) l := hrow.more (fun k hk => ⟨fun e => by have h1 := (hrow.kind k e).1; have h2 := hS k hk; omega, .inl hk, Nat.lt_of_lt_of_le (hS k hk) hb1.size⟩) fun k hk => hk.2.2
  rcases Nat.eq_zero_or_pos n with h0 | h0
  · subst h0
    have HV := Lib.hid hrow0
    clear hrow hs1 hrow0
    go_wp2
    go_loop [9] (fun i => i = .int .i64 0) (fun _ => 0)
    case atStart => rfl
    case round =>
      obtain rfl := hrel
      go_wp2
      go_ret
      exact ⟨_, rfl, HV.out, hb1⟩
  · obtain ⟨g, o, rfl, _, _⟩ := hs1.2.2 h0
    obtain ⟨_, rows, _, hown, _⟩ := id hrow
    obtain rfl : o = 0 := by
      rcases hown.2 with ⟨h, _⟩ | ⟨g', cap', cur, h, _⟩
      · cases h
      · cases h; rfl
    have hgb := (hown.lt g rfl).1
    have hgl := (hown.lt g rfl).2
    have hrow1 : RowK w1 w.heap.size 68 (fun b => b ≠ g ∧ NewS S w w1 b) (.slice (some ⟨g, 0, none⟩) n c1) l := hrow0.more (fun k hk => ⟨fun e => hk.1 (by rw [e]; rfl), hk.2⟩) fun k hk => hk.2.2
    clear hrow hs1 hown hrow0
    go_wp2
    go_loopw [9] (fun i wx => ∃ k : Nat, k ≤ n ∧ i = .int .i64 k ∧ RowK wx w.heap.size 68 (fun b => b ≠ g ∧ NewS S w wx b) (.slice (some ⟨g, 0, none⟩) n c1) l ∧ g < wx.heap.size ∧ Below w.heap.size w wx) (fun i _ => n - (intOf i).toNat)
    case atStart => exact ⟨0, Nat.zero_le _, rfl, hrow1, hgl, hb1⟩
    case round =>
      clear hrow1 hgl hb1
      obtain ⟨k, hk, rfl, hrow, hgl, hbel⟩ := hrel
      by_cases hlt : k < n
      · obtain ⟨x, hx⟩ := at_lt (l := l) (k := k) (by rw [HL.out]; exact hlt)
        obtain ⟨r, hr, hc⟩ := hrow.elem hx
        obtain ⟨A2, n2, c2, A3, n3, c3, A4, n4, c4, rfl, ⟨z1, z2, z3, z4, z5⟩, _, s2, s3, s4⟩ := hr
        have q2 : wr.cell? ⟨g, k * 8 + 2, none⟩ = some (.slice A2 n2 c2) := hc 2 _ rfl
        have q3 : wr.cell? ⟨g, k * 8 + 3, none⟩ = some (.int .i64 x.result.code) := hc 3 _ rfl
        have q4 : wr.cell? ⟨g, k * 8 + 4, none⟩ = some (.string x.result.text) := hc 4 _ rfl
        have q5 : wr.cell? ⟨g, k * 8 + 5, none⟩ = some (.slice A3 n3 c3) := hc 5 _ rfl
        have q6 : wr.cell? ⟨g, k * 8 + 6, none⟩ = some (.slice A4 n4 c4) := hc 6 _ rfl
        have q7 : wr.cell? ⟨g, k * 8 + 7, none⟩ = some (.int .i64 x.result.command) := hc 7 _ rfl
        have hkI : (k : Int) < (n : Int) := by omega
        have hg0 : (0 : Int) ≤ (k : Int) := Int.natCast_nonneg _
        obtain ⟨o1, o2, o3, o4⟩ := hok x (List.mem_of_getElem? hx)
        rw [s2.1] at o1
        rw [s3.1] at o2
        rw [s4.1] at o3
        have HX := Lib.hid hx
        have HRow := Lib.hid hrow
        have hfz := fun j => hrow.frozenAt j
        have HFz := Lib.hid hfz
        have hKl : ∀ b, (b ≠ g ∧ NewS S w wr b) → b < wr.heap.size := fun b hb => hb.2.2
        have HC := Lib.hid (clone_looks A2 n2 c2 x.looks wr.drew (fun b => b ≠ g ∧ NewS S w wr b) hKl (s2.keep fun _ _ => rfl) (by omega))
        have HO := Lib.hid (fun (w2 : World) (hb : Below wr.heap.size wr w2) => steps_ownResult x.result A3 n3 c3 A4 n4 c4 w2 (fun b => b ≠ g ∧ NewS S w wr b) (fun b hb2 => Nat.lt_of_lt_of_le (hKl b hb2) hb.size) ⟨z4, z3, s3.keep fun b hb2 => hb.block b (hKl b hb2), s4.keep fun b hb2 => hb.block b (hKl b hb2), z5⟩ o2 o3 o4)
        unfold resVal at HO
        clear hx hc hrow hfz s2 s3 s4
        go_wp2_with fail
        go_region_law (first
          | (go_simp; go_at_call 62; refine HC.out.mono ?_; rintro e w2 ⟨A5, c5, rfl, h51, h52, hs5, hb2⟩
             have hb2' : Below wr.heap.size wr w2 := of_drew hb2
             have r3 := (hb2'.cell (p := ⟨g, k * 8 + 3, none⟩) hgl).trans q3
             have r4 := (hb2'.cell (p := ⟨g, k * 8 + 4, none⟩) hgl).trans q4
             have r5 := (hb2'.cell (p := ⟨g, k * 8 + 5, none⟩) hgl).trans q5
             have r6 := (hb2'.cell (p := ⟨g, k * 8 + 6, none⟩) hgl).trans q6
             have r7 := (hb2'.cell (p := ⟨g, k * 8 + 7, none⟩) hgl).trans q7)
          | (go_simp; go_at_call 63; refine (HO.out w2 hb2').mono ?_; rintro e w3 ⟨A6, n6, c6, A7, n7, c7, rfl, hc67, hs6, hb3⟩
             unfold resVal
             have hb3' := fr_call hb2' hb3
             have t2 := (hb3'.cell (p := ⟨g, k * 8 + 2, none⟩) hgl).trans q2
             have t3 := (hb3'.cell (p := ⟨g, k * 8 + 3, none⟩) hgl).trans q3
             have t4 := (hb3'.cell (p := ⟨g, k * 8 + 4, none⟩) hgl).trans q4
             have t5 := (hb3'.cell (p := ⟨g, k * 8 + 5, none⟩) hgl).trans q5
             have t6 := (hb3'.cell (p := ⟨g, k * 8 + 6, none⟩) hgl).trans q6
             have t7 := (hb3'.cell (p := ⟨g, k * 8 + 7, none⟩) hgl).trans q7
             have f2 := (hb3'.frozen (p := ⟨g, k * 8 + 2, none⟩) hgl).trans (HFz.out (k * 8 + 2))
             have f3 := (hb3'.frozen (p := ⟨g, k * 8 + 3, none⟩) hgl).trans (HFz.out (k * 8 + 3))
             have f4 := (hb3'.frozen (p := ⟨g, k * 8 + 4, none⟩) hgl).trans (HFz.out (k * 8 + 4))
             have f5 := (hb3'.frozen (p := ⟨g, k * 8 + 5, none⟩) hgl).trans (HFz.out (k * 8 + 5))
             have f6 := (hb3'.frozen (p := ⟨g, k * 8 + 6, none⟩) hgl).trans (HFz.out (k * 8 + 6))
             have f7 := (hb3'.frozen (p := ⟨g, k * 8 + 7, none⟩) hgl).trans (HFz.out (k * 8 + 7))))
        all_goals
          obtain ⟨V, hV⟩ : ∃ V, V = (((((w3.setCell ⟨g, k * 8 + 2, none⟩ (.slice A5 n2 c5)).setCell ⟨g, k * 8 + 3, none⟩ (.int .i64 x.result.code)).setCell ⟨g, k * 8 + 3 + 1, none⟩ (.string x.result.text)).setCell ⟨g, k * 8 + 3 + 2, none⟩ (.slice A6 n6 c6)).setCell ⟨g, k * 8 + 3 + 3, none⟩ (.slice A7 n7 c7)).setCell ⟨g, k * 8 + 3 + 4, none⟩ (.int .i64 x.result.command) := ⟨_, rfl⟩
          rw [← hV]
          have hz2 := hb2'.size
          have hz3 := hb3.size
          have hzw := hbel.size
          have hrow3 : RowK w3 w.heap.size 68 (fun b => b ≠ g ∧ NewS S w w3 b) (.slice (some ⟨g, 0, none⟩) n c1) l := (HRow.out.call hb3').more (fun b hb => ⟨hb.1, hb.2.1, by have := hb.2.2; omega⟩) fun b hb => hb.2.2
          have s2 : Sl w3 (fun b => b ≠ g ∧ NewS S w w3 b) A5 n2 x.looks := (hs5.keep fun b hb => hb3.block b hb.2).more fun b hb => newS_more hb (Nat.le_refl _) (by show g < wr.heap.size; exact hgl) (by show w.heap.size ≤ wr.heap.size; exact hzw) hz3
          have s3 : Sl w3 (fun b => b ≠ g ∧ NewS S w w3 b) A6 n6 x.result.files := hs6.files.more fun b hb => newS_more hb hz2 hgl hzw (Nat.le_refl _)
          have s4 : Sl w3 (fun b => b ≠ g ∧ NewS S w w3 b) A7 n7 x.result.looks := hs6.looks.more fun b hb => newS_more hb hz2 hgl hzw (Nat.le_refl _)
          have hrowV : RowK V w.heap.size 68 (fun b => b ≠ g ∧ NewS S w w3 b) (.slice (some ⟨g, 0, none⟩) n c1) l := by rw [hV]; exact memory_set hrow3 (fun h => h.1 rfl) HX.out s2 s3 s4 ⟨h51, h52, hc67⟩
          have hzV : V.heap.size = w3.heap.size := by rw [hV, size_setCell', size_setCell', size_setCell', size_setCell', size_setCell', size_setCell']
          have hrowV2 : RowK V w.heap.size 68 (fun b => b ≠ g ∧ NewS S w V b) (.slice (some ⟨g, 0, none⟩) n c1) l := hrowV.more (fun b hb => ⟨hb.1, hb.2.1, by rw [hzV]; exact hb.2.2⟩) fun b hb => hb.2.2
          have hbV : Below w.heap.size w V := by
            rw [hV]
            exact ((((((fr_call hbel hb3').setCell (p := ⟨g, _, none⟩) hgb _).setCell (p := ⟨g, _, none⟩) hgb _).setCell (p := ⟨g, _, none⟩) hgb _).setCell (p := ⟨g, _, none⟩) hgb _).setCell (p := ⟨g, _, none⟩) hgb _).setCell (p := ⟨g, _, none⟩) hgb _
          have HV2 := Lib.hid hrowV2
          have hgV : g < V.heap.size := by omega
          clear hV hrow3 s2 s3 s4 hrowV hzV hrowV2 hs5 hs6 hb2 hb3 q2 q3 q4 q5 q6 q7 r3 r4 r5 r6 r7 t2 t3 t4 t5 t6 t7 f2 f3 f4 f5 f6 f7
          go_wp2
          go_roundw
          case rel => exact ⟨k + 1, by omega, by go_num, HV2.out, hgV, hbV⟩
          case measure => simp [intOf]; omega
      · clear HL
        go_wp2
        go_ret
        exact ⟨_, rfl, hrow.more (fun b hb => ⟨fun e => hb.1 (by cases e; rfl), hb.2⟩) fun b hb => hb.2.2, hbel⟩
end Go.Proofs.Sm

namespace Go.Proofs.Sm
open Go.RowKit

theorem mem_form {x : MemoryV} (h : (isPathS x.name && isDigestS x.action) = false) : checkMemS x = 3 := by rw [checkMemS, if_pos h]
theorem mem_looks {x : MemoryV} (h : (isPathS x.name && isDigestS x.action) = true) (h1 : checkLooksS x.looks ≠ 0) : checkMemS x = checkLooksS x.looks := by rw [checkMemS, if_neg (by rw [h]; decide), if_pos h1]
theorem mem_result {x : MemoryV} (h : (isPathS x.name && isDigestS x.action) = true) (h1 : checkLooksS x.looks = 0) (h2 : checkResultS x.result ≠ 0) : checkMemS x = checkResultS x.result := by rw [checkMemS, if_neg (by rw [h]; decide), if_neg (by rw [h1]; decide), if_pos h2]
theorem mem_rest {x : MemoryV} (h : (isPathS x.name && isDigestS x.action) = true) (h1 : checkLooksS x.looks = 0) (h2 : checkResultS x.result = 0) : checkMemS x = if x.result.code ≠ 0 then 11 else if sameLooksS x.looks x.result.looks = false then 12 else 0 := by
  rw [checkMemS, if_neg (by rw [h]; decide), if_neg (by rw [h1]; decide), if_neg (by rw [h2]; decide)]
section
variable {l : List MemoryV} {k : Nat} {x : MemoryV}
theorem mems_stop {f : Int} (hx : l[k]? = some x) (h : checkMemS x = f) (h0 : f ≠ 0) : listErr memErr MemoryV.name (ahead MemoryV.name l k) (l.drop k) = f := by
  have h1 : memErr (ahead MemoryV.name l k) x = f := by rw [memErr, if_pos (by rw [h]; exact h0), h]
  rw [list_stop (key := MemoryV.name) hx h1 h0]
theorem mems_rest {prev : Option ByteArray} (h : checkMemS x = 0) : memErr prev x = if notAfter prev x.name then 8 else 0 := by rw [memErr, if_neg (by rw [h]; decide)]
theorem mems_large (h : (500 : Int) < (l.length : Int)) : checkMemoryS l = 2 := by rw [checkMemoryS, if_pos h]
theorem mems_all (h : ¬ (500 : Int) < (l.length : Int)) : checkMemoryS l = listErr memErr MemoryV.name none l := by rw [checkMemoryS, if_neg h]
end
def memCells (x : MemoryV) (A1 : Option Addr) (n1 c1 : Nat) (A2 : Option Addr) (n2 c2 : Nat) (A3 : Option Addr) (n3 c3 : Nat) : List Value :=
  [.string x.name, .string x.action, .slice A1 n1 c1, .int .i64 x.result.code, .string x.result.text, .slice A2 n2 c2, .slice A3 n3 c3, .int .i64 x.result.command]
theorem mem_box (w : World) (x : MemoryV) (A1 : Option Addr) (n1 c1 : Nat) (A2 : Option Addr) (n2 c2 : Nat) (A3 : Option Addr) (n3 c3 : Nat) :
    Arr (w.alloc (.cells #[.string x.name, .string x.action, .slice A1 n1 c1, .int .i64 x.result.code, .string x.result.text, .slice A2 n2 c2, .slice A3 n3 c3, .int .i64 x.result.command] 68)) w.heap.size 68 (memCells x A1 n1 c1 A2 n2 c2 A3 n3 c3) := heap_alloc_new w _
set_option maxHeartbeats 4000000 in
set_option maxRecDepth 100000 in
theorem steps_CheckMemory (A : Option Addr) (n c : Nat) (l : List MemoryV) (w : World) (hE : Env w) (hsl : Sl w (Lt w.heap.size) A n l) :
    Calls Tryz.prog 27 #[.slice A n c] w fun e w' => e = .returned (.int .i64 (checkMemoryS l)) ∧ Below w.heap.size w w' := by
  have hm : n ≤ 9223372036854775807 := hsl.2.1
  have HL := Lib.hid hsl.1
  by_cases hbig : (500 : Int) < (n : Int)
  · have HV := Lib.hid (mems_large (l := l) (by rw [HL.out]; exact hbig))
    go_enter Tryz.func27, Tryz.ntmps27
    go_wp2
    go_ret
    exact ⟨ret_int HV.out.symm, Below.refl _ _⟩
  have HA := Lib.hid (mems_all (l := l) (by rw [HL.out]; exact hbig))
  go_enter Tryz.func27, Tryz.ntmps27
  go_wp2
  go_loopw [12] (fun i wr => ∃ k : Nat, k ≤ n ∧ i = .int .i64 k ∧ listErr memErr MemoryV.name none l = listErr memErr MemoryV.name (ahead MemoryV.name l k) (l.drop k) ∧ Below w.heap.size w wr) (fun i _ => n - (intOf i).toNat)
  case atStart => exact ⟨0, Nat.zero_le _, rfl, rfl, Below.refl _ _⟩
  case round =>
    obtain ⟨k, hk, rfl, hd, hbel⟩ := hrel
    have Hr := Lib.hid hd; clear hd
    have hEr := hE.then_ hbel
    have hslr := sl_call hsl hbel (Nat.le_refl _)
    by_cases hlt : k < n
    · have hkI : (k : Int) < (n : Int) := by omega
      obtain ⟨b, o, x, rfl, hbb, hx, A1, n1, c1, A2, n2, c2, A3, n3, c3, ⟨z1, z2, z3, z4, z5⟩, _, ⟨s1, s2, s3⟩, q0, q1, q2, q3, q4, q5, q6, q7⟩ := hslr.memory hlt
      have HX := Lib.hid hx; clear hx
      have hres : ResIs wr x.result A2 n2 A3 n3 := ⟨z4, z3, s2, s3, z5⟩
      go_wp2_with fail
      generalize hW0 : wr.alloc (.cells #[.string x.name, .string x.action, .slice A1 n1 c1, .int .i64 x.result.code, .string x.result.text, .slice A2 n2 c2, .slice A3 n3 c3, .int .i64 x.result.command] 68) = W
      have hA0 : Arr W wr.heap.size 68 (memCells x A1 n1 c1 A2 n2 c2 A3 n3 c3) := by rw [← hW0]; exact mem_box ..
      have hb0 : Below wr.heap.size wr W := by rw [← hW0]; exact fr_alloc (fr_refl wr) _
      clear hW0 q1 q2 q3 q4 q5 q6 q7
      refine (blob_IsPath x.name W (hEr.then_ hb0)).mono ?_
      rintro e w1 ⟨rfl, hb1⟩
      have hb01 := fr_call hb0 hb1
      have hA1 := hA0.call hb1
      have p1 := hA1.cell (i := 1) rfl
      clear hA0 hb0 hb1
      cases hp : isPathS x.name
      · have HV := Lib.hid (mems_stop HX.out (mem_form (by rw [hp]; rfl)) (by decide))
        have hbw := fr_call hbel hb01
        clear hp
        go_wp2
        go_ret
        exact ⟨ret_int (by rw [HA.out, Hr.out, HV.out]), hbw⟩
      go_wp2_with fail
      refine (blob_IsDigest x.action w1 z2).mono ?_
      rintro e w2 ⟨rfl, hb2⟩
      have hb02 := fr_call hb01 hb2
      have hA2 := hA1.call hb2
      have p2 := hA2.cell (i := 2) rfl
      clear hA1 hb2 hb01 p1
      cases hq : isDigestS x.action
      · have HV := Lib.hid (mems_stop HX.out (mem_form (by rw [hp, hq]; rfl)) (by decide))
        have hbw := fr_call hbel hb02
        clear hp hq
        go_wp2
        go_ret
        exact ⟨ret_int (by rw [HA.out, Hr.out, HV.out]), hbw⟩
      have HF := Lib.hid (show (isPathS x.name && isDigestS x.action) = true by rw [hp, hq]; rfl)
      clear hp hq
      go_wp2_with fail
      refine (act_CheckLooks A1 n1 c1 x.looks w2 (hEr.then_ hb02) (sl_call s1 hb02 (Nat.le_refl _))).mono ?_
      rintro e w3 ⟨rfl, hb3⟩
      have hb03 := fr_call hb02 hb3
      have hA3 := hA2.call hb3
      have p3 := hA3.cell (i := 3) rfl
      have p4 := hA3.cell (i := 4) rfl
      have p5 := hA3.cell (i := 5) rfl
      have p6 := hA3.cell (i := 6) rfl
      have p7 := hA3.cell (i := 7) rfl
      have hgl3 := hA3.lt
      clear hA2 hb3 hb02 p2
      cases h0 : (checkLooksS x.looks == 0)
      · have hne : checkLooksS x.looks ≠ 0 := by simpa using h0
        have hbn : (checkLooksS x.looks != 0) = true := by simpa using h0
        have HV := Lib.hid (mems_stop HX.out (mem_looks HF.out hne) hne)
        have hbw := fr_call hbel hb03
        clear hne
        go_wp2
        go_ret
        exact ⟨ret_int (by rw [HA.out, Hr.out, HV.out]), hbw⟩
      have hz : checkLooksS x.looks = 0 := by simpa using h0
      have hbn : (checkLooksS x.looks != 0) = false := by simpa using h0
      have HZ := Lib.hid hz; clear hz
      have HC := Lib.hid (act_CheckResult x.result A2 n2 c2 A3 n3 c3 w3 (hEr.then_ hb03) (hres.then_ hb03))
      unfold resVal at HC
      go_wp2_with fail
      refine HC.out.mono ?_
      rintro e w4 ⟨rfl, hb4⟩
      have hb04 := fr_call hb03 hb4
      have hA4 := hA3.call hb4
      have r2 := hA4.cell (i := 2) rfl
      have r3 := hA4.cell (i := 3) rfl
      have r6 := hA4.cell (i := 6) rfl
      clear hA3 hb4 hb03 p3 p4 p5 p6 p7 HC h0 hbn
      cases h0 : (checkResultS x.result == 0)
      · have hne : checkResultS x.result ≠ 0 := by simpa using h0
        have hbn : (checkResultS x.result != 0) = true := by simpa using h0
        have HV := Lib.hid (mems_stop HX.out (mem_result HF.out HZ.out hne) hne)
        have hbw := fr_call hbel hb04
        clear hne
        go_wp2
        go_ret
        exact ⟨ret_int (by rw [HA.out, Hr.out, HV.out]), hbw⟩
      have hz : checkResultS x.result = 0 := by simpa using h0
      have hbn : (checkResultS x.result != 0) = false := by simpa using h0
      have HR := Lib.hid (mem_rest HF.out HZ.out hz); clear hz
      cases hcode : (x.result.code == 0)
      · have hbc : (x.result.code != 0) = true := by simpa using hcode
        have HV := Lib.hid (mems_stop HX.out (show checkMemS x = 11 by rw [HR.out, if_pos (by simpa using hcode)]) (by decide))
        have hbw := fr_call hbel hb04
        go_wp2
        go_ret
        exact ⟨ret_int (by rw [HA.out, Hr.out, HV.out]), hbw⟩
      have hbc : (x.result.code != 0) = false := by simpa using hcode
      have HR2 := Lib.hid (show checkMemS x = if sameLooksS x.looks x.result.looks = false then 12 else 0 by rw [HR.out, if_neg (by simpa using hcode)])
      clear HR
      go_wp2_with fail
      refine (slices_EqualLook A1 A3 n1 n3 c1 c3 x.looks x.result.looks w4 (sl_call s1 hb04 (Nat.le_refl _)) (sl_call s3 hb04 (Nat.le_refl _))).mono ?_
      rintro e w5 ⟨rfl, hb5⟩
      have hb05 := fr_call hb04 hb5
      have hA5 := hA4.call hb5
      have hbw := fr_call hbel hb05
      have pn := hA5.cell (i := 0) rfl
      clear hA4 hb5 hb04 r2 r3 r6 hcode hbc h0 hbn
      cases hsame : sameLooksS x.looks x.result.looks
      · have HV := Lib.hid (mems_stop HX.out (show checkMemS x = 12 by rw [HR2.out, if_pos hsame]) (by decide))
        clear hsame
        go_wp2
        go_ret
        exact ⟨ret_int (by rw [HA.out, Hr.out, HV.out]), hbw⟩
      have HO := Lib.hid (mems_rest (prev := ahead MemoryV.name l k) (show checkMemS x = 0 by rw [HR2.out, if_neg (by rw [hsame]; decide)]))
      clear hsame
      by_cases hk0 : 0 < k
      · have hg0 : decide ((0 : Int) < (k : Int)) = true := by simpa using hk0
        obtain ⟨_, _, z, e0, hbz, hy, _, _, _, _, _, _, _, _, _, _, _, _, d0, _⟩ := hslr.memory (k := k - 1) (by omega)
        cases e0
        have HAh := Lib.hid (ahead_pos (f := MemoryV.name) hk0 hy); clear hy
        have hbw0 : b < wr.heap.size := hbz
        have d1 : w5.cell? ⟨b, o + (k - 1) * 8, none⟩ = some (.string z.name) := by rw [hb05.cell (by exact hbw0)]; exact d0
        cases hle : leS x.name z.name
        · have HV := Lib.hid (show memErr (ahead MemoryV.name l k) x = 0 by rw [HO.out, HAh.out]; simp [notAfter, hle])
          have hle' := leS_false hle
          go_wp2
          have g1 := IntWalk.i64_in ((k : Int) - 1) ⟨by omega, by omega⟩; have g2 : ((k : Int) - 1).toNat = k - 1 := (by omega); have g3 : (0 : Int) ≤ (k : Int) - 1 := (by omega); have g4 : (k : Int) - 1 < (n : Int) := (by omega)
          go_quiet (fail)
          clear g1 g2 g3 g4
          go_wp2
          go_roundw
          case rel => exact ⟨k + 1, by omega, by go_num, by rw [Hr.out]; exact list_round HX.out HV.out, below_drewN hbw _⟩
          case measure => simp [intOf]; omega
        · have HV := Lib.hid (list_stop (key := MemoryV.name) HX.out (show memErr (ahead MemoryV.name l k) x = 8 by rw [HO.out, HAh.out]; simp [notAfter, hle]) (by decide))
          have hle' := leS_true hle
          go_wp2
          have g1 := IntWalk.i64_in ((k : Int) - 1) ⟨by omega, by omega⟩; have g2 : ((k : Int) - 1).toNat = k - 1 := (by omega); have g3 : (0 : Int) ≤ (k : Int) - 1 := (by omega); have g4 : (k : Int) - 1 < (n : Int) := (by omega)
          go_quiet (fail)
          clear g1 g2 g3 g4
          go_wp2
          go_ret
          exact ⟨ret_int (by rw [HA.out, Hr.out, HV.out]), below_drewN hbw _⟩
      · have hg0 : decide ((0 : Int) < (k : Int)) = false := by simpa using hk0
        have HV := Lib.hid (show memErr (ahead MemoryV.name l k) x = 0 by rw [HO.out, show ahead MemoryV.name l k = none by simp [ahead]; omega]; rfl)
        go_wp2
        go_quiet (fail)
        go_wp2
        go_roundw
        case rel => exact ⟨k + 1, by omega, by go_num, by rw [Hr.out]; exact list_round HX.out HV.out, below_drewN hbw _⟩
        case measure => simp [intOf]; omega
    · have HV := Lib.hid (show listErr memErr MemoryV.name none l = 0 by rw [Hr.out, list_end (by rw [HL.out]; omega)])
      go_wp2
      go_ret
      exact ⟨ret_int (by rw [HA.out, HV.out]), hbel⟩
end Go.Proofs.Sm

namespace Go.Proofs.Sm
open Go.RowKit Go.Sort

theorem heap_sortedV {w : World} {g n : Nat} {os : Array Obj} {cur : Array Value} {e : TypeId} {fr : Nat × Nat} (d : Array Value) (hb : w.heap[g]? = some (.cells cur e fr)) :
    (grow (putRow id (Sort.ahead w n) g 0 d) os).heap[g]? = some (.cells (putCells id 0 d cur) e fr) := by
  have hg : g < w.heap.size := (Array.getElem?_eq_some_iff.1 hb).1
  rw [heap_grow_old _ _ (by simpa using hg)]
  simp [putRow, mapBlock, Sort.ahead, Array.getElem?_modify, hb, onCells]
theorem grownBy_sortedV {w : World} {g n : Nat} {os : Array Obj} (d : Array Value) : w.grownBy (grow (putRow id (Sort.ahead w n) g 0 d) os) (some g) := by
  refine ⟨rfl, rfl, rfl, by simp, fun k hk hne => ?_⟩
  rw [heap_grow_old _ _ (by simpa using hk)]
  have : g ≠ k := fun e => hne (by rw [e])
  simp [putRow, mapBlock, Sort.ahead, Array.getElem?_modify, this]
theorem take_putCellsV (cur : Array Value) (ts : List Value) (h : ts.length ≤ cur.size) : (putCells id 0 ts.toArray cur).toList.take ts.length = ts := by
  apply List.ext_getElem?
  intro j
  by_cases hj : j < ts.length
  · rw [List.getElem?_take_of_lt hj, Array.getElem?_toList]
    simp [putCells, hj, show j < cur.size by omega]
  · rw [List.getElem?_take_eq_none (by omega), List.getElem?_eq_none (by omega)]
section
variable {α : Type} [Inhabited α] {enc : α → List Value} {k : Nat}
theorem flatK_list (hk : ∀ x, (enc x).length = k) (d : Array α) : flatK enc k d = (d.toList.flatMap enc).toArray := by
  have hl : (d.toList.flatMap enc).length = d.size * k := by
    have key : ∀ l : List α, (l.flatMap enc).length = l.length * k := by
      intro l
      induction l with
      | nil => simp
      | cons x l ih => rw [List.flatMap_cons, List.length_append, ih, hk, List.length_cons, Nat.succ_mul]; omega
    rw [key, Array.length_toList]
  refine ext_get! (by simp [hl]) fun t ht => ?_
  have ht' : t < d.size * k := by simpa using ht
  have k0 : 0 < k := by
    rcases Nat.eq_zero_or_pos k with h | h
    · subst h; simp at ht'
    · exact h
  rw [get_flatK _ _ _ t ht']
  have hi : t / k < d.size := Nat.div_lt_of_lt_mul (by rw [Nat.mul_comm]; exact ht')
  have hx : d.toList[t / k]? = some (d[t / k]'hi) := by rw [Array.getElem?_toList]; exact Array.getElem?_eq_getElem hi
  have hm : t % k < k := Nat.mod_lt _ k0
  have h1 := flatMap_at hk hx hm
  rw [show t / k * k + t % k = t by rw [Nat.mul_comm]; exact Nat.div_add_mod t k] at h1
  have h2 : (d.toList.flatMap enc).toArray[t]? = (enc (d[t / k]'hi))[t % k]? := by rw [← h1]; simp
  rw [getElem!_pos d (t / k) hi, List.getElem!_eq_getElem?_getD, ← h2]
  simp
theorem sorted_row (hk : ∀ x, (enc x).length = k) {w : World} {B g cap n : Nat} {os : Array Obj} {e : TypeId} {d d' : Array α} (hs : d'.size = d.size) (h : w.ownsRow B e k (.slice (some ⟨g, 0, none⟩) d.size cap) d.size (d.toList.flatMap enc)) :
    (sortWorldK enc k w g 0 n d' os).ownsRow B e k (.slice (some ⟨g, 0, none⟩) d.size cap) d.size (d'.toList.flatMap enc) ∧ w.grownBy (sortWorldK enc k w g 0 n d' os) (some g) := by
  have hl : (d'.toList.flatMap enc).length = d.size * k := by
    rw [← hs, ← size_flatK enc k d', flatK_list hk]; simp
  unfold sortWorldK putRowK
  rw [flatK_list hk d']
  refine ⟨⟨by rw [hl], .inr ?_⟩, grownBy_sortedV _⟩
  rcases h.2 with ⟨h0, _⟩ | ⟨g', cap', cur, hv, hg, hb, h1, h2, h3, _⟩
  · cases h0
  · cases hv
    refine ⟨g, cap, _, rfl, hg, heap_sortedV _ hb, h1, h2, by simpa [putCells] using h3, ?_⟩
    rw [← hl]
    exact take_putCellsV cur _ (by rw [hl, h3]; exact Nat.mul_le_mul_right k h1)
theorem holdsK_own (hk : ∀ x, (enc x).length = k) {w : World} {B g cap : Nat} {e : TypeId} {d : Array α} (h : w.ownsRow B e k (.slice (some ⟨g, 0, none⟩) d.size cap) d.size (d.toList.flatMap enc)) : HoldsK enc k w g 0 d := by
  unfold HoldsK
  rw [flatK_list hk]
  intro j hj
  have hj' : j < (d.toList.flatMap enc).length := by simpa using hj
  refine ⟨?_, by rw [Nat.zero_add]; exact h.frozenAt j⟩
  have h1 := h.cells rfl j _ (List.getElem?_eq_getElem hj')
  rw [addr_add] at h1
  rw [h1]
  simp only [id]
  rw [getElem!_pos _ j (by simpa using hj')]
  simp
end
end Go.Proofs.Sm

namespace Go.Proofs
open Go.Shelf
def Tryz.sortf_apiMemory_ren : Go.Shelf.Ren := ⟨fun | 6 => 29 | 15 => 65 | 14 => 64 | 28 => 104 | 29 => 105 | 20 => 96 | 21 => 97 | 22 => 98 | 23 => 99 | 24 => 100 | 25 => 101 | 26 => 102 | 27 => 103 | 46 => 141 | 47 => 142 | 48 => 143 | 49 => 144 | 50 => 145 | 57 => 182 | n => n, fun | 22 => 30 | 24 => 68 | 25 => 73 | 3 => 3 | 39 => 107 | 0 => 0 | 53 => 133 | 55 => 135 | 4 => 4 | 46 => 127 | 45 => 126 | 50 => 87 | 5 => 5 | 9 => 9 | 66 => 168 | 70 => 172 | 76 => 193 | 77 => 194 | n => n, fun | n => n⟩
theorem Tryz.sortf_apiMemory : Go.Proofs.SlLaysF0.n6 Tryz.prog Tryz.sortf_apiMemory_ren := {
  mixed := by kernel_rfl
  f6 := ⟨Tryz.f29.name, by decide, Tryz.func29.trans (congrArg some (by kernel_rfl))⟩
  f14 := ⟨Tryz.f64.name, by decide, Tryz.func64.trans (congrArg some (by kernel_rfl))⟩
  f15 := Tryz.func65.trans (congrArg some (by kernel_rfl))
  f20 := ⟨Tryz.f96.name, by decide, Tryz.func96.trans (congrArg some (by kernel_rfl))⟩
  f21 := ⟨Tryz.f97.name, by decide, Tryz.func97.trans (congrArg some (by kernel_rfl))⟩
  f22 := ⟨Tryz.f98.name, by decide, Tryz.func98.trans (congrArg some (by kernel_rfl))⟩
  f23 := ⟨Tryz.f99.name, by decide, Tryz.func99.trans (congrArg some (by kernel_rfl))⟩
  f24 := ⟨Tryz.f100.name, by decide, Tryz.func100.trans (congrArg some (by kernel_rfl))⟩
  f25 := ⟨Tryz.f101.name, by decide, Tryz.func101.trans (congrArg some (by kernel_rfl))⟩
  f26 := ⟨Tryz.f102.name, by decide, Tryz.func102.trans (congrArg some (by kernel_rfl))⟩
  f27 := ⟨Tryz.f103.name, by decide, Tryz.func103.trans (congrArg some (by kernel_rfl))⟩
  f28 := Tryz.func104.trans (congrArg some (by kernel_rfl))
  f29 := Tryz.func105.trans (congrArg some (by kernel_rfl))
  f46 := ⟨Tryz.f141.name, by decide, Tryz.func141.trans (congrArg some (by kernel_rfl))⟩
  f47 := Tryz.func142.trans (congrArg some (by kernel_rfl))
  f48 := Tryz.func143.trans (congrArg some (by kernel_rfl))
  f49 := ⟨Tryz.f144.name, by decide, Tryz.func144.trans (congrArg some (by kernel_rfl))⟩
  f50 := ⟨Tryz.f145.name, by decide, Tryz.func145.trans (congrArg some (by kernel_rfl))⟩
  f57 := ⟨Tryz.f182.name, by decide, Tryz.func182.trans (congrArg some (by kernel_rfl))⟩
  t0 := Tryz.underlying0
  a0 := Tryz.isAgg0
  z0 := Tryz.sizeOf0
  v0 := Tryz.zeroValue0
  t3 := Tryz.underlying3
  a3 := Tryz.isAgg3
  z3 := Tryz.sizeOf3
  v3 := Tryz.zeroValue3
  t4 := Tryz.underlying4
  a4 := Tryz.isAgg4
  z4 := Tryz.sizeOf4
  v4 := Tryz.zeroValue4
  t5 := Tryz.underlying5
  a5 := Tryz.isAgg5
  z5 := Tryz.sizeOf5
  v5 := Tryz.zeroValue5
  t9 := Tryz.underlying9
  a9 := Tryz.isAgg9
  z9 := Tryz.sizeOf9
  v9 := Tryz.zeroValue9
  t22 := Tryz.underlying30
  a22 := Tryz.isAgg30
  z22 := Tryz.sizeOf30
  v22 := Tryz.zeroValue30
  t25 := Tryz.underlying73
  a25 := Tryz.isAgg73
  z25 := Tryz.sizeOf73
  v25 := Tryz.zeroValue73
  t39 := Tryz.underlying107
  a39 := Tryz.isAgg107
  z39 := Tryz.sizeOf107
  v39 := Tryz.zeroValue107
  t45 := Tryz.underlying126
  a45 := Tryz.isAgg126
  z45 := Tryz.sizeOf126
  v45 := Tryz.zeroValue126
  t46 := Tryz.underlying127
  a46 := Tryz.isAgg127
  z46 := Tryz.sizeOf127
  v46 := Tryz.zeroValue127
  t50 := Tryz.underlying87
  a50 := Tryz.isAgg87
  z50 := Tryz.sizeOf87
  v50 := Tryz.zeroValue87
  t53 := Tryz.underlying133
  a53 := Tryz.isAgg133
  z53 := Tryz.sizeOf133
  v53 := Tryz.zeroValue133
  t55 := Tryz.underlying135
  a55 := Tryz.isAgg135
  z55 := Tryz.sizeOf135
  v55 := Tryz.zeroValue135
  t66 := Tryz.underlying168
  a66 := Tryz.isAgg168
  z66 := Tryz.sizeOf168
  v66 := Tryz.zeroValue168
  t70 := Tryz.underlying172
  a70 := Tryz.isAgg172
  z70 := Tryz.sizeOf172
  v70 := Tryz.zeroValue172
  t76 := Tryz.underlying193
  a76 := Tryz.isAgg193
  z76 := Tryz.sizeOf193
  v76 := Tryz.zeroValue193
  t77 := Tryz.underlying194
  a77 := Tryz.isAgg194
  z77 := Tryz.sizeOf194
  v77 := Tryz.zeroValue194 }
end Go.Proofs

namespace Go.Proofs.Sm
open Go.RowKit Go.Sort Go.Shelf Go.Lib

/-- the cells of what is remembered of one rule -/
structure MemRow where
  name : ByteArray
  action : ByteArray
  text : ByteArray
  s1 : Value
  s2 : Value
  s3 : Value
  code : Int
  command : Int
  one : s1.oneCell' = true ∧ s2.oneCell' = true ∧ s3.oneCell' = true
instance : Inhabited MemRow := ⟨⟨⟨#[]⟩, ⟨#[]⟩, ⟨#[]⟩, .bool false, .bool false, .bool false, 0, 0, rfl, rfl, rfl⟩⟩
def encMem (x : MemRow) : List Value := [.string x.name, .string x.action, x.s1, .int .i64 x.code, .string x.text, x.s2, x.s3, .int .i64 x.command]
instance : Inhabited MemoryV := ⟨⟨⟨#[]⟩, ⟨#[]⟩, [], ⟨0, ⟨#[]⟩, [], [], 0⟩⟩⟩
/-- what is remembered, and how it lies -/
abbrev MemP := MemoryV × MemRow
def encP (p : MemP) : List Value := encMem p.2
def cmpP (p q : MemP) : Int := Lib.compareBytes p.2.name.data.toList q.2.name.data.toList
theorem ltP (p q : MemP) : ltOf cmpP p q = ltS p.2.name q.2.name := by
  unfold ltOf cmpP ltS
  rw [Lib.toList_data, Lib.toList_data, Bool.eq_iff_iff, decide_eq_true_eq, cmp_lt]
theorem swoP : SWO (ltOf cmpP) where
  irrefl x := by rw [ltP]; exact bl_irrefl _
  trans x y z h1 h2 := by rw [ltP] at *; exact bl_trans h1 h2
  ntrans x y z h1 h2 := by
    rw [ltP] at *
    cases h : ltS x.2.name z.2.name with
    | false => rfl
    | true =>
      exfalso
      by_cases e : x.2.name.toList = y.2.name.toList
      · unfold ltS at h h2
        rw [e] at h
        rw [h] at h2; cases h2
      · have h3 : ltS y.2.name x.2.name = true := bl_total h1 e
        have h4 : ltS y.2.name z.2.name = true := bl_trans h3 h
        rw [h4] at h2; cases h2
set_option maxRecDepth 100000 in
theorem steps_Joined1 (x y : MemP) (w : World) :
    Calls Tryz.prog 30 #[.agg (encP x).toArray, .agg (encP y).toArray] w fun e w' => e = .returned (.int .i64 (cmpP x y)) ∧ ∃ q os', w' = grow (w.drewN q) os' := by
  unfold encP encMem cmpP
  generalize hx : x.2 = a
  generalize hy : y.2 = b
  have a1 := a.one.1
  have a2 := a.one.2.1
  have a3 := a.one.2.2
  have b1 := b.one.1
  have b2 := b.one.2.1
  have b3 := b.one.2.2
  have HC := Lib.hid (fun W => Tryz.strings_Compare a.name b.name W)
  generalize Lib.compareBytes a.name.data.toList b.name.data.toList = r at HC ⊢
  clear hx hy
  go_enter Tryz.func30, Tryz.ntmps30
  go_wp2_with (go_at_call 31; refine (HC.out _).mono ?_; rintro e w1 ⟨rfl, rfl⟩)
  go_ret
  exact ⟨rfl, 0, _, by rw [alloc_eq_grow, alloc_eq_grow, grow_grow]; rfl⟩
theorem agg_memory : ∀ w, (isAgg 68).run Tryz.prog w = .ok true w := fun w => Tryz.isAgg68 w
theorem size_memory : ∀ w, (Go.sizeOf 68).run Tryz.prog w = .ok 8 w := fun w => Tryz.sizeOf68 w
end Go.Proofs.Sm

namespace Go.Proofs.Sm
open Go.RowKit Go.Sort Go.Shelf Go.Lib

theorem encP_len (p : MemP) : (encP p).length = 8 := rfl
theorem encP_one (p : MemP) : ∀ v ∈ encP p, v.oneCell' = true := by
  intro v hv
  unfold encP encMem at hv
  simp only [List.mem_cons, List.not_mem_nil, or_false] at hv
  obtain ⟨h1, h2, h3⟩ := p.2.one
  rcases hv with rfl | rfl | rfl | rfl | rfl | rfl | rfl | rfl
  all_goals first | rfl | assumption
/-- a row of memories as pairs of what they are and how they lie -/
theorem row_pairs {w : World} {B : Nat} {e : TypeId} {K : Nat → Prop} {v : Value} {l : List MemoryV} (h : RowK w B e K v l) :
    ∃ ps : List MemP, ps.map Prod.fst = l ∧ (∀ p ∈ ps, Rep.rep w K p.1 (encP p) ∧ p.2.name = p.1.name) ∧ w.ownsRow B e 8 v l.length (ps.flatMap encP) := by
  obtain ⟨_, rows, hr, hown, hrep⟩ := h
  have key : ∀ (l : List MemoryV) (rows : List (List Value)), rows.length = l.length → (∀ (i : Nat) (x : MemoryV) (r : List Value), l[i]? = some x → rows[i]? = some r → Rep.rep w K x r) →
      ∃ ps : List MemP, ps.map Prod.fst = l ∧ (∀ p ∈ ps, Rep.rep w K p.1 (encP p) ∧ p.2.name = p.1.name) ∧ rows.flatten = ps.flatMap encP := by
    intro l
    induction l with
    | nil =>
      intro rows h0 _
      obtain rfl := List.eq_nil_of_length_eq_zero h0
      exact ⟨[], rfl, fun p hp => by simp at hp, rfl⟩
    | cons x l ih =>
      intro rows h0 h1
      cases rows with
      | nil => simp at h0
      | cons r rows =>
        obtain ⟨ps, h2, h3, h4⟩ := ih rows (by simpa using h0) fun i x r hx hr => h1 (i + 1) x r (by simpa using hx) (by simpa using hr)
        have hx := h1 0 x r rfl rfl
        obtain ⟨A, n, c, B, m, d, C, p, q, e0, _⟩ := id hx
        have hx2 := hx
        rw [e0] at hx2
        refine ⟨(x, ⟨x.name, x.action, x.result.text, .slice A n c, .slice B m d, .slice C p q, x.result.code, x.result.command, rfl, rfl, rfl⟩) :: ps, by rw [List.map_cons, h2], fun y hy => ?_, ?_⟩
        · rcases List.mem_cons.1 hy with rfl | hy
          · exact ⟨hx2, rfl⟩
          · exact h3 y hy
        · rw [List.flatten_cons, h4, e0, List.flatMap_cons]; rfl
  obtain ⟨ps, h1, h2, h3⟩ := key l rows hr hrep
  exact ⟨ps, h1, h2, by rw [← h3]; exact hown⟩
theorem row_of_pairs {w w' : World} {B g : Nat} {e : TypeId} {K : Nat → Prop} {v : Value} {ps ps' : List MemP} (hK : ∀ k, K k → k < w.heap.size) (hg : ¬ K g) (hrep : ∀ p ∈ ps, Rep.rep w K p.1 (encP p)) (hp : ps'.Perm ps) (hgr : w.grownBy w' (some g)) (hown : w'.ownsRow B e 8 v ps'.length (ps'.flatMap encP)) : RowK w' B e K v (ps'.map Prod.fst) := by
  refine ⟨fun k hk => Nat.lt_of_lt_of_le (hK k hk) hgr.size, ps'.map encP, by simp, ?_, fun i x r hx hr => ?_⟩
  · rw [List.length_map, ← List.flatMap_def]
    exact hown
  · rw [List.getElem?_map, Option.map_eq_some_iff] at hx hr
    obtain ⟨p, hp1, rfl⟩ := hx
    obtain ⟨q, hq1, rfl⟩ := hr
    rw [hp1] at hq1
    obtain rfl := Option.some.inj hq1
    exact Rep.keep (fun k hk => hgr.block k (hK k hk) fun e => hg (by cases e; exact hk)) (hrep p (hp.mem_iff.1 (List.mem_of_getElem? hp1)))
theorem sort_memories (v : Value) (l : List MemoryV) (B : Nat) (K : Nat → Prop) (w : World) (h : RowK w B 68 K v l) (hne : ∀ g, v.ownBlock = some g → ¬ K g) (hn : l.length ≤ 1000000) :
    Calls Tryz.prog 29 #[v, .func (.func 30) #[] #[]] w fun e w' => e = .returned (.tuple #[]) ∧
      ∃ l', l'.Perm l ∧ (∀ (i j : Nat) (x y : MemoryV), i < j → l'[i]? = some x → l'[j]? = some y → ltS y.name x.name = false) ∧ RowK w' B 68 K v l' ∧ w.grownBy w' v.ownBlock := by
  rcases Nat.eq_zero_or_pos l.length with h0 | h0
  · obtain rfl := List.eq_nil_of_length_eq_zero h0
    obtain ⟨A, c, rfl⟩ := h.form
    have hcon := AnyF.slices_SortFunc_none Tryz.sortf_apiMemory A c (.func (.func 30) #[] #[]) w
    change Calls Tryz.prog 29 _ _ _ at hcon
    refine hcon.mono ?_
    rintro e w' ⟨rfl, rfl⟩
    exact ⟨rfl, [], List.Perm.refl _, fun i j x y _ h => by simp at h, h, World.grownBy.refl _ _⟩
  · obtain ⟨ps, hps, hrep, hown⟩ := row_pairs h
    have hl : ps.length = l.length := by rw [← hps, List.length_map]
    obtain ⟨A, c, rfl⟩ := h.form
    obtain ⟨g, rfl, hgl⟩ : ∃ g, A = some ⟨g, 0, none⟩ ∧ g < w.heap.size := by
      rcases hown.2 with ⟨e0, h1⟩ | ⟨g, cap, cur, e0, h1, h2, _⟩
      · omega
      · cases e0; exact ⟨g, rfl, (Array.getElem?_eq_some_iff.1 h2).1⟩
    have hs : ps.toArray.size = l.length := by rw [List.size_toArray, hl]
    have hown2 : w.ownsRow B 68 8 (.slice (some ⟨g, 0, none⟩) ps.toArray.size c) ps.toArray.size (ps.toArray.toList.flatMap encP) := by rw [hs]; exact hown
    have eg : ∀ args w, (callFunc 30 args).run Tryz.prog w = .ok (.enter 30 args) w := enters_of Tryz.func30 (by kernel_rfl) rfl
    have hcon := AnyQ.slices_SortFunc Tryz.sortf_apiMemory 8 agg_memory size_memory encP encP_len encP_one cmpP swoP 30 #[] g 0 c ps.toArray w eg (fun _ _ _ _ x y => steps_Joined1 x y _) (holdsK_own encP_len hown2) hgl (by rw [hs]; omega)
    change Calls Tryz.prog 29 _ _ _ at hcon
    rw [hs] at hcon
    refine hcon.mono ?_
    rintro e w' ⟨rfl, d', n, os, ⟨hd1, _, hd2⟩, hso, rfl⟩
    rw [hs] at hd1
    have hd3 : d'.toList.Perm ps := by
      have e1 : (d'.extract 0 l.length).toList = d'.toList := by rw [← hd1, Array.extract_size]
      have e2 : (ps.toArray.extract 0 l.length).toList = ps := by rw [← hs, Array.extract_size]
      rwa [e1, e2] at hd2
    obtain ⟨hown3, hgr⟩ := sorted_row encP_len (n := n) (os := os) (d' := d') (by rw [hs, hd1]) hown2
    have hdl : d'.toList.length = l.length := by rw [Array.length_toList, hd1]
    rw [hs, ← hdl] at hown3
    have hrow := row_of_pairs h.1 (hne g rfl) (fun p hp => (hrep p hp).1) hd3 hgr hown3
    refine ⟨rfl, d'.toList.map Prod.fst, ?_, fun i j x y hij hx hy => ?_, ?_, hgr⟩
    · rw [← hps]; exact hd3.map _
    · rw [List.getElem?_map, Option.map_eq_some_iff] at hx hy
      obtain ⟨p, hp1, rfl⟩ := hx
      obtain ⟨q, hq1, rfl⟩ := hy
      have hj : j < d'.size := by
        have := (List.getElem?_eq_some_iff.1 hq1).1
        simpa using this
      have h1 := hso i j (Nat.zero_le _) hij (by omega)
      rw [ltP, getElem!_pos d' i (by omega), getElem!_pos d' j hj] at h1
      rw [Array.getElem?_toList, Array.getElem?_eq_getElem (by omega)] at hp1
      rw [Array.getElem?_toList, Array.getElem?_eq_getElem hj] at hq1
      obtain rfl := Option.some.inj hp1
      obtain rfl := Option.some.inj hq1
      rwa [(hrep _ (hd3.mem_iff.1 (by simp))).2, (hrep _ (hd3.mem_iff.1 (by simp))).2] at h1
    · rw [hdl] at hrow; exact hrow
end Go.Proofs.Sm
