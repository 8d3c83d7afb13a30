/- Walks: the law of results that come back. -/
import Derived.Test.YtnhcaelapadhaaaGreatDoorW24J
import Derived.Test.YtnhcaelapadhaaaGreatDoorW54J
import Derived.Test.YtnhcaelapadhaaaGreatDoorW61
namespace Go.Proofs.Sm
open Go.RowKit

theorem back_read {r : ResultV} (h : resultTextErr r = 0) : readResS (resultTextS r) = (r, 0, 0) ∧ (resultTextS r).size ≤ 4000000 := by
  have h1 : checkResultS r = 0 := by
    unfold resultTextErr at h
    split at h
    · contradiction
    · rename_i h1; simpa using h1
  have h2 : ¬ (4000000 : Int) < ((resultTextL r).length : Int) := by
    intro h2
    rw [resultTextErr, if_neg (by rw [h1]; simp), if_pos h2] at h
    cases h
  have e : resultTextS r = ⟨(resultTextL r).toArray⟩ := by rw [resultTextS, if_pos h]
  have e2 : (resultTextS r).size = (resultTextL r).length := by rw [e]; simp [ByteArray.size]
  refine ⟨?_, by omega⟩
  refine readRes_right (by rw [e2]; exact h2) ?_ h1
  rw [e]; exact result_back h1
theorem back_wrote {T : ByteArray} {x : ResultV} {k : Int} (h : readResS T = (x, k, 0)) : resultTextErr x = 0 ∧ resultTextS x = T := by
  by_cases hl : (4000000 : Int) < T.size
  · rw [readRes_large hl] at h; cases h
  · cases hr : readB T with
    | error p => rw [readRes_bad hl hr] at h; cases h
    | ok r =>
      by_cases hc : checkResultS r = 0
      · rw [readRes_right hl hr hc] at h
        cases h
        have h1 := result_wrote hr
        have e0 : T.data.toList.length = T.size := by simp
        have h2 : resultTextErr x = 0 := by
          rw [resultTextErr, if_neg (by rw [hc]; simp), if_neg (by rw [h1, e0]; exact hl)]
        exact ⟨h2, by rw [resultTextS, if_pos h2, h1]⟩
      · rw [readRes_wrong hl hr hc] at h
        simp only [Prod.mk.injEq] at h
        exact absurd h.2.2 hc
theorem back_none {T : ByteArray} {x : ResultV} {k f : Int} (h : readResS T = (x, k, f)) (hf : f ≠ 0) : x = noResult := by
  by_cases hl : (4000000 : Int) < T.size
  · rw [readRes_large hl] at h; cases h; rfl
  · cases hr : readB T with
    | error p => rw [readRes_bad hl hr] at h; cases h; rfl
    | ok r =>
      by_cases hc : checkResultS r = 0
      · rw [readRes_right hl hr hc] at h; cases h; exact absurd rfl hf
      · rw [readRes_wrong hl hr hc] at h; cases h; rfl
set_option maxHeartbeats 4000000 in
set_option maxRecDepth 100000 in
theorem law_back (r : ResultV) (A : Option Addr) (n c : Nat) (B : Option Addr) (m d : Nat) (T : ByteArray) (w : World) (hE : Env2 w) (hr : ResIs w r A n B m) (hs : T.size ≤ maxLen) :
    Calls Tryz.prog 4 #[resVal r A n c B m d, .string T] w fun e w' => e = .returned (.bool true) ∧ Below w.heap.size w w' := by
  have hb0 := fr_alloc (fr_refl w) (.cells #[.int .i64 r.code, .string r.text, .slice A n c, .slice B m d, .int .i64 r.command] 25)
  have HC1 := Lib.hid (act_ResultText r A n c B m d _ (hE.then_ hb0) (hr.then_ hb0))
  unfold resVal at HC1 ⊢
  have hx0 := heap_alloc_new w (.cells #[.int .i64 r.code, .string r.text, .slice A n c, .slice B m d, .int .i64 r.command] 25 (0, 0))
  cases h0 : (resultTextErr r == 0)
  · have hn0 : (resultTextErr r != 0) = true := by rw [bne, h0]; rfl
    go_enter Tryz.func4, Tryz.ntmps4
    go_wp2_with fail
    refine HC1.out.mono ?_
    rintro e w1 ⟨rfl, hb1⟩
    have hbel := fr_call hb0 hb1
    generalize resultTextErr r = F0 at h0 hn0
    generalize resultTextS r = S0
    clear HC1 hb0 hb1 hx0
    have HT := Lib.hid hbel
    go_wp2_with fail
    refine (act_ReadResult T _ (hE.then_ hbel).toEnv hs).mono ?_
    rintro e w3 ⟨A2, p, p', B2, q, q', rfl, hr3, _, _, _, _, hb3⟩
    have hbel3 := fr_call hbel hb3
    generalize hx : readResS T = X at hr3 ⊢
    obtain ⟨x, k, f⟩ := X
    simp only at hr3
    unfold resVal
    cases hf : (f == 0)
    · have hfn : (f != 0) = true := by rw [bne, hf]; rfl
      have hf0 : f ≠ 0 := by simpa using hf
      obtain rfl := back_none hx hf0
      obtain rfl : p = 0 := hr3.files.1.symm
      clear hx hr3 hf0
      unfold noResult
      go_wp2_with fail
      refine (law5_awake _ (hE.then_ (fr_alloc hbel3 _)).toEnv).mono ?_
      rintro e w5 ⟨rfl, hb5⟩
      go_wp2
      go_ret
      exact ⟨rfl, fr_call (fr_alloc hbel3 _) hb5⟩
    · have hf0 : f = 0 := by simpa using hf
      subst hf0
      obtain ⟨h1, h2⟩ := back_wrote hx
      have hr4 := hr3.then_ (fr_alloc (fr_refl w3) (.cells #[.int .i64 x.code, .string x.text, .slice A2 p p', .slice B2 q q', .int .i64 x.command] 25))
      have HC := Lib.hid (act_ResultText x A2 p p' B2 q q' _ (hE.then_ (fr_alloc hbel3 (.cells #[.int .i64 x.code, .string x.text, .slice A2 p p', .slice B2 q q', .int .i64 x.command] 25))) hr4)
      rw [h1, h2] at HC
      unfold resVal at HC
      clear hx hr3 hr4 h1 h2 hf
      go_wp2_with fail
      refine HC.out.mono ?_
      rintro e w5 ⟨rfl, hb5⟩
      go_wp2_with fail
      refine (law5_awake _ (hE.then_ (fr_call (fr_alloc hbel3 _) hb5)).toEnv).mono ?_
      rintro e w6 ⟨rfl, hb6⟩
      go_wp2
      go_ret
      exact ⟨rfl, fr_call (fr_call (fr_alloc hbel3 _) hb5) hb6⟩
  · have hz : resultTextErr r = 0 := by simpa using h0
    obtain ⟨g1, g2⟩ := back_read hz
    rw [hz] at HC1
    have HA := Lib.hid (fun w' (hE' : Env w') => act_ReadResult (resultTextS r) w' hE' (by unfold maxLen; omega))
    unfold ReadAns at HA
    rw [g1] at HA
    generalize resultTextS r = S0 at HA HC1
    go_enter Tryz.func4, Tryz.ntmps4
    go_wp2_with fail
    refine HC1.out.mono ?_
    rintro e w1 ⟨rfl, hb1⟩
    have hbel1 := fr_call hb0 hb1
    have hx1 := (hb1.block _ (by simp)).trans hx0
    go_wp2_with fail
    refine (HA.out _ (hE.then_ hbel1).toEnv).mono ?_
    rintro e w2 ⟨A1, p1, p1', B1, q1, q1', rfl, hr2, _, _, _, _, hb2⟩
    unfold resVal
    have hx2 := (hb2.block _ (heap_lt hx1)).trans hx1
    have hbel2 := fr_alloc (fr_call hbel1 hb2) (.cells #[.int .i64 r.code, .string r.text, .slice A1 p1 p1', .slice B1 q1 q1', .int .i64 r.command] 25)
    have hlt := heap_lt hx2
    have j0 : w2.cell? ⟨w.heap.size, 0, none⟩ = some (.int .i64 r.code) := by rw [Lib.cell_of_heap hx2]; rfl
    have j1 : w2.cell? ⟨w.heap.size, 1, none⟩ = some (.string r.text) := by rw [Lib.cell_of_heap hx2]; rfl
    have j2 : w2.cell? ⟨w.heap.size, 2, none⟩ = some (.slice A n c) := by rw [Lib.cell_of_heap hx2]; rfl
    have j3 : w2.cell? ⟨w.heap.size, 3, none⟩ = some (.slice B m d) := by rw [Lib.cell_of_heap hx2]; rfl
    have j4 : w2.cell? ⟨w.heap.size, 4, none⟩ = some (.int .i64 r.command) := by rw [Lib.cell_of_heap hx2]; rfl
    have HS := Lib.hid (ref5_SameResult r A1 A p1 n p1' c B1 B q1 m q1' d _ (hr2.then_ (fr_alloc (fr_refl w2) (.cells #[.int .i64 r.code, .string r.text, .slice A1 p1 p1', .slice B1 q1 q1', .int .i64 r.command] 25))) (hr.then_ hbel2))
    unfold resVal at HS
    clear HC1 HA hx0 hx1 hx2 hr2 h0 hz g1 g2
    go_wp2_with fail
    refine HS.out.mono ?_
    rintro e w2' ⟨rfl, hb2'⟩
    have hbel := fr_call hbel2 hb2'
    clear j0 j1 j2 j3 j4 hlt HS hb0 hb1 hb2 hbel1
    have HT := Lib.hid hbel
    go_wp2_with fail
    refine (act_ReadResult T _ (hE.then_ hbel).toEnv hs).mono ?_
    rintro e w3 ⟨A2, p, p', B2, q, q', rfl, hr3, _, _, _, _, hb3⟩
    have hbel3 := fr_call hbel hb3
    generalize hx : readResS T = X at hr3 ⊢
    obtain ⟨x, k, f⟩ := X
    simp only at hr3
    unfold resVal
    cases hf : (f == 0)
    · have hfn : (f != 0) = true := by rw [bne, hf]; rfl
      have hf0 : f ≠ 0 := by simpa using hf
      obtain rfl := back_none hx hf0
      obtain rfl : p = 0 := hr3.files.1.symm
      clear hx hr3 hf0
      unfold noResult
      go_wp2_with fail
      refine (law5_awake _ (hE.then_ (fr_alloc hbel3 _)).toEnv).mono ?_
      rintro e w5 ⟨rfl, hb5⟩
      go_wp2
      go_ret
      exact ⟨rfl, fr_call (fr_alloc hbel3 _) hb5⟩
    · have hf0 : f = 0 := by simpa using hf
      subst hf0
      obtain ⟨h1, h2⟩ := back_wrote hx
      have hr4 := hr3.then_ (fr_alloc (fr_refl w3) (.cells #[.int .i64 x.code, .string x.text, .slice A2 p p', .slice B2 q q', .int .i64 x.command] 25))
      have HC := Lib.hid (act_ResultText x A2 p p' B2 q q' _ (hE.then_ (fr_alloc hbel3 (.cells #[.int .i64 x.code, .string x.text, .slice A2 p p', .slice B2 q q', .int .i64 x.command] 25))) hr4)
      rw [h1, h2] at HC
      unfold resVal at HC
      clear hx hr3 hr4 h1 h2 hf
      go_wp2_with fail
      refine HC.out.mono ?_
      rintro e w5 ⟨rfl, hb5⟩
      go_wp2_with fail
      refine (law5_awake _ (hE.then_ (fr_call (fr_alloc hbel3 _) hb5)).toEnv).mono ?_
      rintro e w6 ⟨rfl, hb6⟩
      go_wp2
      go_ret
      exact ⟨rfl, fr_call (fr_call (fr_alloc hbel3 _) hb5) hb6⟩
end Go.Proofs.Sm
