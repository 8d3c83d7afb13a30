/- Walks: the law of results. -/
import Derived.Test.YtfdobbclpacijaaDoorW25
import Derived.Test.YtfdobbclpacijaaDoorW18
namespace Go.Proofs.Sm
open Go.RowKit

set_option maxHeartbeats 1000000 in
set_option maxRecDepth 100000 in
theorem law_results (r : ResultV) (A : Option Addr) (n c : Nat) (B : Option Addr) (m d : Nat) (w : World) (hE : Env2 w) (hr : ResIs w r A n B m) :
    Calls Tryd.prog 4 #[resVal r A n c B m d] w fun e w' => e = .returned (.bool true) ∧ Below w.heap.size w w' := by
  have hv : resVal r A n c B m d = .agg #[.int .i64 r.code, .string r.text, .slice A n c, .slice B m d, .int .i64 r.command] := rfl
  have C1 := Lib.hid (fun w' (hb : Below w.heap.size w w') => act_ResultText r A n c B m d w' (hE.then_ hb) (hr.then_ hb))
  have C2 := Lib.hid (fun w' (hb : Below w.heap.size w w') => ref5_ResultText r A n c B m d w' (hE.then_ hb) (hr.then_ hb))
  have C3 := Lib.hid (fun w' (hb : Below w.heap.size w w') => act_CheckResult r A n c B m d w' (hE.then_ hb).toEnv (hr.then_ hb))
  have C4 := Lib.hid (fun w' (hb : Below w.heap.size w w') => ref5_CheckResult r A n c B m d w' (hE.then_ hb).toEnv (hr.then_ hb))
  rw [hv] at C1 C2 C3 C4 ⊢
  clear hv
  go_enter Tryd.func4, Tryd.ntmps4
  go_wp2_with fail
  have b0 := fr_alloc (fr_refl w) (.cells #[.int .i64 r.code, .string r.text, .slice A n c, .slice B m d, .int .i64 r.command] 34)
  refine (C1.out _ b0).mono ?_
  rintro e w1 ⟨rfl, hb1⟩
  have hz1 := grew hb1
  obtain ⟨hc1, hf1⟩ := bcell hb1
  have b1 := fr_call b0 hb1
  have hX1 := Lib.hid ((hb1.block _ (by simp)).trans (heap_alloc_new w (.cells #[.int .i64 r.code, .string r.text, .slice A n c, .slice B m d, .int .i64 r.command] 34)))
  clear hb1 b0
  go_wp2_with fail
  refine (C2.out _ b1).mono ?_
  rintro e w2 ⟨rfl, hb2⟩
  have hX : w2.heap[w.heap.size]? = some (.cells #[.int .i64 r.code, .string r.text, .slice A n c, .slice B m d, .int .i64 r.command] 34 (0, 0)) :=
    (hb2.block _ hz1).trans hX1.out
  have b2 := fr_call b1 hb2
  have hz2 : w.heap.size < w2.heap.size := Nat.lt_of_lt_of_le hz1 hb2.size
  clear hb2 b1 hc1 hf1
  have HK := Lib.hid (show ∀ w', Below w2.heap.size w2 w' → (Below w2.heap.size w2 w' ∧ w'.cell? ⟨w.heap.size, 0, none⟩ = some (.int .i64 r.code) ∧ w'.cell? ⟨w.heap.size, 1, none⟩ = some (.string r.text) ∧ w'.cell? ⟨w.heap.size, 2, none⟩ = some (.slice A n c) ∧ w'.cell? ⟨w.heap.size, 3, none⟩ = some (.slice B m d) ∧ w'.cell? ⟨w.heap.size, 4, none⟩ = some (.int .i64 r.command)) from fun w' h => by
    have h1 : w'.heap[w.heap.size]? = _ := (h.block _ hz2).trans hX
    refine ⟨h, ?_, ?_, ?_, ?_, ?_⟩ <;> (rw [World.cell?, h1]; rfl))
  clear hX
  go_wp2_with fail
  go_region_held3 (fun w' => Below w2.heap.size w2 w' ∧ w'.cell? ⟨w.heap.size, 0, none⟩ = some (.int .i64 r.code) ∧ w'.cell? ⟨w.heap.size, 1, none⟩ = some (.string r.text) ∧ w'.cell? ⟨w.heap.size, 2, none⟩ = some (.slice A n c) ∧ w'.cell? ⟨w.heap.size, 3, none⟩ = some (.slice B m d) ∧ w'.cell? ⟨w.heap.size, 4, none⟩ = some (.int .i64 r.command))
    (first | assumption | exact HK.out _ (Below.refl _ _).drew | exact HK.out _ (below_step (And.left (by assumption)) hbc))
    (first
      | (go_at_call 15; refine (C3.out _ (fr_call b2 (And.left (by assumption)))).mono ?_; rintro e wc ⟨rfl, hbc⟩)
      | (go_at_call 16; refine (C4.out _ (fr_call b2 (And.left (by assumption)))).mono ?_; rintro e wc ⟨rfl, hbc⟩)
      | (go_at_call 12; refine (law5_awake _ (hE.toEnv.then_ (fr_call b2 (And.left (by assumption))))).mono ?_; rintro e wc ⟨rfl, hbc⟩))
  have b3 : Below w2.heap.size w2 wc := And.left (by assumption)
  go_wp2
  go_ret
  exact ⟨rfl, fr_call b2 b3⟩
end Go.Proofs.Sm
