/- Walks: the law of results that are read. -/
import Derived.Test.YtnhcaelapadhaaaGreatDoorW22
import Derived.Test.YtnhcaelapadhaaaGreatDoorW18
import Derived.Deep.RegionHeld3
import Derived.Test.YtnhcaelapadhaaaGreatDoorW60J
namespace Go.Proofs.Sm
open Go.RowKit

theorem bytes_Equal (A A' : Option Addr) (n n' c c' : Nat) (l : List UInt8) (w : World) (S : Nat → Prop) (h : Sl w S A n l) (h' : Sl w S A' n' l) :
    Calls Tryz.prog 88 #[.slice A n c, .slice A' n' c'] w fun e w' => e = .returned (.bool true) ∧ w = w' := by
  have r1 := run_bytes_string (P := Tryz.prog) h 63 9 5 c Tryz.underlying63 Tryz.underlying5 Tryz.underlying9
  have r2 := run_bytes_string (P := Tryz.prog) h' 63 9 5 c' Tryz.underlying63 Tryz.underlying5 Tryz.underlying9
  generalize (⟨l.toArray⟩ : ByteArray) = s at r1 r2
  go_enter Tryz.func88, Tryz.ntmps88
  go_wp2
  go_ret
  exact ⟨rfl, rfl⟩
set_option maxRecDepth 100000 in
theorem ref1_SameFile (x : FileV) (A A' : Option Addr) (n n' c c' : Nat) (w : World) (h : Sl w (Lt w.heap.size) A n x.bytes) (h' : Sl w (Lt w.heap.size) A' n' x.bytes) :
    Calls Tryz.prog 57 #[.agg #[.string x.path, .bool x.run, .slice A n c], .agg #[.string x.path, .bool x.run, .slice A' n' c']] w fun e w' => e = .returned (.bool true) ∧ Below w.heap.size w w' := by
  go_enter Tryz.func57, Tryz.ntmps57
  go_wp2_with fail
  have hb := fr_alloc (fr_alloc (fr_refl w) (.cells #[.string x.path, .bool x.run, .slice A n c] 65)) (.cells #[.string x.path, .bool x.run, .slice A' n' c'] 65)
  refine (bytes_Equal A A' n n' c c' x.bytes _ (Lt w.heap.size) (h.keep (keep_lt hb)) (h'.keep (keep_lt hb))).mono ?_
  rintro e w1 ⟨rfl, rfl⟩
  go_wp2
  go_ret
  exact ⟨rfl, hb⟩
set_option maxRecDepth 100000 in
theorem ref1_SameFiles (A A' : Option Addr) (n c c' : Nat) (l : List FileV) (w : World) (h : Sl w (Lt w.heap.size) A n l) (h' : Sl w (Lt w.heap.size) A' n l) :
    Calls Tryz.prog 23 #[.slice A n c, .slice A' n c'] w fun e w' => e = .returned (.bool true) ∧ Below w.heap.size w w' := by
  have hm : n ≤ 9223372036854775807 := h.2.1
  go_enter Tryz.func23, Tryz.ntmps23
  go_wp2
  go_loopw [5] (fun i wr => ∃ k : Nat, k ≤ n ∧ i = .int .i64 k ∧ Below w.heap.size w wr) (fun i _ => n - (intOf i).toNat)
  case atStart => exact ⟨0, Nat.zero_le _, rfl, fr_refl w⟩
  case round =>
    obtain ⟨k, hk, rfl, hbel⟩ := hrel
    by_cases hlt : k < n
    · obtain ⟨g1, o1, x1, A1, n1, c1, rfl, hb1, hx1, hp1, _, _, s1, p0, p1, p2⟩ := (h.keep (keep_lt hbel)).file hlt
      obtain ⟨g2, o2, x2, A2, n2, c2, rfl, hb2, hx2, hp2, _, _, s2, q0, q1, q2⟩ := (h'.keep (keep_lt hbel)).file hlt
      obtain rfl : x1 = x2 := by rw [hx1] at hx2; exact Option.some.inj hx2
      have hkI : (k : Int) < (n : Int) := by omega
      have hg1 : g1 < w.heap.size := hb1
      have hg2 : g2 < w.heap.size := hb2
      have HK := Lib.hid (show ∀ w', Below w.heap.size w w' → (Below w.heap.size w w' ∧ w'.cell? ⟨g1, o1 + k * 3, none⟩ = some (.string x1.path) ∧ w'.cell? ⟨g1, o1 + k * 3 + 1, none⟩ = some (.bool x1.run) ∧ w'.cell? ⟨g1, o1 + k * 3 + 2, none⟩ = some (.slice A1 n1 c1) ∧
          w'.cell? ⟨g2, o2 + k * 3, none⟩ = some (.string x1.path) ∧ w'.cell? ⟨g2, o2 + k * 3 + 1, none⟩ = some (.bool x1.run) ∧ w'.cell? ⟨g2, o2 + k * 3 + 2, none⟩ = some (.slice A2 n2 c2)) from fun w' hw => by
        have e1 : ∀ o, w'.cell? ⟨g1, o, none⟩ = _ := fun o => (hw.cell (p := ⟨g1, o, none⟩) hg1).trans (hbel.cell (p := ⟨g1, o, none⟩) hg1).symm
        have e2 : ∀ o, w'.cell? ⟨g2, o, none⟩ = _ := fun o => (hw.cell (p := ⟨g2, o, none⟩) hg2).trans (hbel.cell (p := ⟨g2, o, none⟩) hg2).symm
        exact ⟨hw, (e1 _).trans p0, (e1 _).trans p1, (e1 _).trans p2, (e2 _).trans q0, (e2 _).trans q1, (e2 _).trans q2⟩)
      have hs1 : ∀ w', Below w.heap.size w w' → Sl w' (Lt w'.heap.size) A1 n1 x1.bytes := fun w' hw => ((s1.keep (fun q hq => (hw.block q hq).trans (hbel.block q hq).symm)).more (lt_mono hw.size))
      have hs2 : ∀ w', Below w.heap.size w w' → Sl w' (Lt w'.heap.size) A2 n2 x1.bytes := fun w' hw => ((s2.keep (fun q hq => (hw.block q hq).trans (hbel.block q hq).symm)).more (lt_mono hw.size))
      have HC := Lib.hid (fun w' (hw : Below w.heap.size w w') => ref1_SameFile x1 A1 A2 n1 n2 c1 c2 w' (hs1 w' hw) (hs2 w' hw))
      clear hs1 hs2 hx1 hx2 p0 p1 p2 q0 q1 q2 s1 s2
      obtain ⟨_, p0, p1, p2, q0, q1, q2⟩ := HK.out _ hbel
      go_wp2
      go_region_held3 (fun w' => Below w.heap.size w w' ∧ w'.cell? ⟨g1, o1 + k * 3, none⟩ = some (.string x1.path) ∧ w'.cell? ⟨g1, o1 + k * 3 + 1, none⟩ = some (.bool x1.run) ∧ w'.cell? ⟨g1, o1 + k * 3 + 2, none⟩ = some (.slice A1 n1 c1) ∧
          w'.cell? ⟨g2, o2 + k * 3, none⟩ = some (.string x1.path) ∧ w'.cell? ⟨g2, o2 + k * 3 + 1, none⟩ = some (.bool x1.run) ∧ w'.cell? ⟨g2, o2 + k * 3 + 2, none⟩ = some (.slice A2 n2 c2))
        (first | assumption | exact HK.out _ hbel.drew | exact HK.out _ (fr_call (And.left (by assumption)) hbc))
        (first | (go_at_call 57; refine (HC.out _ (And.left (by assumption))).mono ?_; rintro e wc ⟨rfl, hbc⟩))
      have hb9 : Below w.heap.size w wc := And.left (by assumption)
      go_wp2
      go_roundw
      case rel => exact ⟨k + 1, by omega, by go_num, hb9⟩
      case measure => simp [intOf]; omega
    · go_wp2
      go_ret
      exact ⟨rfl, hbel⟩
set_option maxHeartbeats 1000000 in
set_option maxRecDepth 100000 in
theorem ref5_SameResult (r : ResultV) (A A' : Option Addr) (n n' c c' : Nat) (B B' : Option Addr) (m m' d d' : Nat) (w : World) (h : ResIs w r A n B m) (h' : ResIs w r A' n' B' m') :
    Calls Tryz.prog 9 #[resVal r A n c B m d, resVal r A' n' c' B' m' d'] w fun e w' => e = .returned (.bool true) ∧ Below w.heap.size w w' := by
  have hn : n' = n := by rw [← h'.files.1, ← h.files.1]
  subst hn
  have hs := sameLooksS_iff.2 (rfl : r.looks = r.looks)
  have HF := Lib.hid (fun w' (hb : Below w.heap.size w w') => ref1_SameFiles A A' n' c c' r.files w' (h.then_ hb).files (h'.then_ hb).files)
  have HL := Lib.hid (fun w' (hb : Below w.heap.size w w') => ref5_SameLooks B B' m m' d d' r.looks r.looks w' (h.then_ hb).looks (h'.then_ hb).looks)
  rw [hs] at HL
  unfold resVal
  have hb0 := fr_alloc (fr_alloc (fr_refl w) (.cells #[.int .i64 r.code, .string r.text, .slice A n' c, .slice B m d, .int .i64 r.command] 25)) (.cells #[.int .i64 r.code, .string r.text, .slice A' n' c', .slice B' m' d', .int .i64 r.command] 25)
  go_enter Tryz.func9, Tryz.ntmps9
  go_wp2_with fail
  refine (HF.out _ hb0).mono ?_
  rintro e w1 ⟨rfl, hb1⟩
  obtain ⟨hc1, hf1⟩ := bcell hb1
  have hz1 := hb1.size
  have hb2 := fr_call hb0 hb1
  have hsz : w.heap.size + 2 ≤ w1.heap.size := by simpa using hz1
  have e1 : w1.heap[w.heap.size]? = some (.cells #[.int .i64 r.code, .string r.text, .slice A n' c, .slice B m d, .int .i64 r.command] 25 (0, 0)) :=
    (hb1.block _ (by simp; omega)).trans (((fr_alloc (fr_refl (w.alloc _)) _).block w.heap.size (by simp)).trans (heap_alloc_new w _))
  have e2 : w1.heap[w.heap.size + 1]? = some (.cells #[.int .i64 r.code, .string r.text, .slice A' n' c', .slice B' m' d', .int .i64 r.command] 25 (0, 0)) := by
    have := heap_alloc_new (w.alloc (.cells #[.int .i64 r.code, .string r.text, .slice A n' c, .slice B m d, .int .i64 r.command] 25)) (.cells #[.int .i64 r.code, .string r.text, .slice A' n' c', .slice B' m' d', .int .i64 r.command] 25 (0, 0))
    rw [World.size_alloc] at this
    exact (hb1.block _ (by simp)).trans this
  have k3 : w1.cell? ⟨w.heap.size, 3, none⟩ = some (.slice B m d) := by rw [Lib.cell_of_heap e1]; rfl
  have k4 : w1.cell? ⟨w.heap.size, 4, none⟩ = some (.int .i64 r.command) := by rw [Lib.cell_of_heap e1]; rfl
  have j3 : w1.cell? ⟨w.heap.size + 1, 3, none⟩ = some (.slice B' m' d') := by rw [Lib.cell_of_heap e2]; rfl
  have j4 : w1.cell? ⟨w.heap.size + 1, 4, none⟩ = some (.int .i64 r.command) := by rw [Lib.cell_of_heap e2]; rfl
  clear e1 e2 hc1 hf1
  go_wp2_with fail
  refine (HL.out _ hb2).mono ?_
  rintro e w2 ⟨rfl, hb3⟩
  have k4' := (hb3.cell (p := ⟨w.heap.size, 4, none⟩) (show w.heap.size < _ by omega)).trans k4
  have j4' := (hb3.cell (p := ⟨w.heap.size + 1, 4, none⟩) (show w.heap.size + 1 < _ by omega)).trans j4
  go_wp2
  go_ret
  exact ⟨rfl, fr_call hb2 hb3⟩
end Go.Proofs.Sm

namespace Go.Proofs.Sm
open Go.RowKit

set_option maxHeartbeats 1000000 in
set_option maxRecDepth 100000 in
theorem law_reads (T : ByteArray) (w : World) (hE : Env w) (hs : T.size ≤ maxLen) :
    Calls Tryz.prog 3 #[.string T] w fun e w' => e = .returned (.bool true) ∧ Below w.heap.size w w' := by
  go_enter Tryz.func3, Tryz.ntmps3
  go_wp2_with fail
  refine (act_ReadResult T w hE hs).mono ?_
  rintro e w1 ⟨A, n, n', B, m, m', rfl, hr1, _, _, _, _, hb1⟩
  have HR := Lib.hid (fun w' (hE' : Env w') => ref5_ReadResult T w' hE' hs)
  unfold ReadAns at HR
  generalize readResS T = X at hr1 HR ⊢
  obtain ⟨r, k, f⟩ := X
  try simp only at hr1 HR
  unfold resVal
  go_wp2_with fail
  have hb2 := fr_alloc hb1 (.cells #[.int .i64 r.code, .string r.text, .slice A n n', .slice B m m', .int .i64 r.command] 25)
  have hr2 := hr1.then_ (fr_alloc (fr_refl w1) (.cells #[.int .i64 r.code, .string r.text, .slice A n n', .slice B m m', .int .i64 r.command] 25))
  have hx2 := heap_alloc_new w1 (.cells #[.int .i64 r.code, .string r.text, .slice A n n', .slice B m m', .int .i64 r.command] 25 (0, 0))
  refine (HR.out _ (hE.then_ hb2)).mono ?_
  rintro e w3 ⟨A', p, p', B', q, q', rfl, hr3, _, _, _, _, hb3⟩
  unfold resVal
  have hr4 := (hr2.then_ hb3).then_ (fr_alloc (fr_refl w3) (.cells #[.int .i64 r.code, .string r.text, .slice A' p p', .slice B' q q', .int .i64 r.command] 25))
  have hr5 := hr3.then_ (fr_alloc (fr_refl w3) (.cells #[.int .i64 r.code, .string r.text, .slice A' p p', .slice B' q q', .int .i64 r.command] 25))
  have hb4 := fr_alloc (fr_call hb2 hb3) (.cells #[.int .i64 r.code, .string r.text, .slice A' p p', .slice B' q q', .int .i64 r.command] 25)
  have hx3 := (hb3.block _ (by simp)).trans hx2
  have hlt := heap_lt hx3
  have j0 : w3.cell? ⟨w1.heap.size, 0, none⟩ = some (.int .i64 r.code) := by rw [Lib.cell_of_heap hx3]; rfl
  have j1 : w3.cell? ⟨w1.heap.size, 1, none⟩ = some (.string r.text) := by rw [Lib.cell_of_heap hx3]; rfl
  have j2 : w3.cell? ⟨w1.heap.size, 2, none⟩ = some (.slice A n n') := by rw [Lib.cell_of_heap hx3]; rfl
  have j3 : w3.cell? ⟨w1.heap.size, 3, none⟩ = some (.slice B m m') := by rw [Lib.cell_of_heap hx3]; rfl
  have j4 : w3.cell? ⟨w1.heap.size, 4, none⟩ = some (.int .i64 r.command) := by rw [Lib.cell_of_heap hx3]; rfl
  have HC := Lib.hid (ref5_SameResult r A A' n p n' p' B B' m q m' q' _ hr4 hr5)
  unfold resVal at HC
  clear hr1 hr2 hr3 hr4 hr5 hx2 hx3 HR
  go_wp2_with fail
  refine HC.out.mono ?_
  rintro e w4 ⟨rfl, hb5⟩
  go_wp2_with fail
  refine (law5_awake w4 (hE.then_ (fr_call hb4 hb5))).mono ?_
  rintro e w5 ⟨rfl, hb6⟩
  go_wp2
  go_ret
  exact ⟨rfl, fr_call (fr_call hb4 hb5) hb6⟩
end Go.Proofs.Sm
