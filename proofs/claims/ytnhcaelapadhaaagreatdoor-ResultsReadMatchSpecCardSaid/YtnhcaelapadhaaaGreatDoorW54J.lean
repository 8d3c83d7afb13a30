/- Walks: the program's ReadResult. -/
import Derived.Test.YtnhcaelapadhaaaGreatDoorW51J
import Derived.Test.YtnhcaelapadhaaaGreatDoorW52J
import Derived.Test.YtnhcaelapadhaaaGreatDoorPlain18J
import Derived.Test.YtnhcaelapadhaaaGreatDoorW22
namespace Go.Proofs.Sm
open Go.RowKit

theorem top_facts {T t : ByteArray} {c d p : Nat} (h : topS T = .ok (c, d, t, p)) : c < 1000000000 ∧ d < 1000000000 ∧ t.size ≤ T.size ∧ p ≤ T.size := by
  rw [topS] at h
  split at h
  · split at h
    · rename_i hc
      obtain ⟨n1, n2⟩ := Bool.and_eq_true_iff.1 hc
      rw [textS] at h
      split at h
      · split at h
        · split at h
          · cases h
          · rename_i hs
            cases h
            exact ⟨num9 n1, num9 n2, by rw [ByteArray.size_extract]; omega, by omega⟩
        · cases h
      · cases h
    · cases h
  · cases h
/-- where the reader stands -/
def posOf (w : World) (b : Nat) : Nat := match w.cell? ⟨b, 1, none⟩ with
  | some (.int _ p) => p.toNat
  | _ => 0
theorem posOf_rd {w : World} {B b : Nat} {T : ByteArray} {c : Int} {t : ByteArray} {d : Int} {st : RSt} {vF vL : Value} (h : ARd w B b T c t d st vF vL) : posOf w b = st.pos := by
  obtain ⟨⟨_, c1, _⟩, _⟩ := rb_cells h.blk
  rw [posOf, c1]
  simp
def AllAns (B b : Nat) (T : ByteArray) (r : Except Nat ResultV) (w : World) (e : Ending) (w' : World) : Prop := Below B w w' ∧ match r with
  | .error p => e = .returned (.bool false) ∧ ∃ c t d vF vL, w'.heap[b]? = some (RB T p c t vF vL d)
  | .ok r => e = .returned (.bool true) ∧ ∃ p vF vL, ARd w' B b T r.code r.text r.command ⟨p, r.files, r.looks⟩ vF vL
section
variable {B b p : Nat} {T t : ByteArray} {c d : Int} {vF vL : Value} {R : Except Nat ResultV} {w w' : World} {st : RSt}
theorem AllAns.bad (h : R = .error p) (hg : Below B w w') (hb : w'.heap[b]? = some (RB T p c t vF vL d)) : AllAns B b T R w (.returned (.bool false)) w' := by
  subst h; exact ⟨hg, rfl, _, _, _, _, _, hb⟩
theorem AllAns.good (h : R = .ok ⟨c, t, st.files, st.looks, d⟩) (hg : Below B w w') (hb : ARd w' B b T c t d st vF vL) : AllAns B b T R w (.returned (.bool true)) w' := by
  subst h; exact ⟨hg, rfl, st.pos, _, _, hb⟩
end
theorem ARd.drewN {w : World} {B b : Nat} {T : ByteArray} {c : Int} {t : ByteArray} {d : Int} {st : RSt} {vF vL : Value} (h : ARd w B b T c t d st vF vL) (n : Nat) : ARd (w.drewN n) B b T c t d st vF vL :=
  h.call (below_drewN (fr_refl w) n)
theorem file_has {T : ByteArray} {p : Nat} (h : fileAt T p = true) : p < T.size := by
  rw [fileAt, restB_data, Lib.hasPrefix, List.isPrefixOf_iff_prefix] at h
  have := h.length_le
  have e0 : T.data.toList.length = T.size := by simp
  rw [List.length_drop, e0] at this
  simp only [List.length_cons, List.length_nil] at this
  omega

set_option maxHeartbeats 2000000 in
set_option maxRecDepth 100000 in
theorem act_all (T : ByteArray) (B b : Nat) (w : World) (hE : Env w) (hnB : 8 ≤ B) (hBw : B ≤ w.heap.size) (hBb : B ≤ b) (blk : w.heap[b]? = some (RB T 0 0 ⟨#[]⟩ (.slice none 0 0) (.slice none 0 0) 0)) (hT : T.size ≤ 4000000) :
    Calls Tryz.prog 16 #[.pointer (some ⟨b, 0, none⟩)] w fun e w' => AllAns B b T (readB T) w e w' := by
  go_enter Tryz.func16, Tryz.ntmps16
  go_wp2_with fail
  refine (act_top T b w hE (by omega) blk hT).mono ?_
  rintro e w1 ⟨hgr, ha⟩
  have hb1 : Below B w w1 := (gb_base hBw (Below.refl B w) hgr hBb)
  cases htop : topS T with
  | error p =>
    rw [htop] at ha
    obtain ⟨rfl, c, t, d, blk1⟩ := ha
    have HV := Lib.hid (show readB T = .error p by rw [readB, htop])
    go_wp2
    go_ret
    exact AllAns.bad HV.out hb1 blk1
  | ok r =>
    obtain ⟨c, d, t, p⟩ := r
    rw [htop] at ha
    obtain ⟨rfl, blk1⟩ := ha
    have hp := (top_facts htop).2.2.2
    have hR : readB T = match runS T ⟨p, [], []⟩ with | .error p => .error p | .ok st => .ok ⟨(c : Nat), t, st.files, st.looks, (d : Nat)⟩ := by rw [readB, htop]; rfl
    have HR := Lib.hid hR
    clear hR htop hgr
    go_wp2
    go_loopw [] (fun wr => ∃ (st : RSt) (vF vL : Value), st.looks = [] ∧ ARd wr B b T (c : Nat) t (d : Nat) st vF vL ∧ runS T st = runS T ⟨p, [], []⟩ ∧ Below B w wr) (fun wr => T.size - posOf wr b)
    case atStart => exact ⟨⟨p, [], []⟩, _, _, rfl, ⟨blk1, RowOwn.nil, RowOwn.nil, hBb, Nat.zero_le _, Nat.zero_le _, hp⟩, rfl, hb1⟩
    case round =>
      clear hb1 blk1
      obtain ⟨st, vF, vL, hlk, hrd, hrun, hbel⟩ := hrel
      have HRun := Lib.hid hrun; clear hrun
      obtain ⟨⟨k0, k1, _, _, _, _, _⟩, _, hbl⟩ := rb_cells hrd.blk
      have hq := hrd.room.2.2
      have hqI : (st.pos : Int) ≤ (T.size : Int) := by omega
      have HP := Lib.hid (fun w' => show Calls Tryz.prog 42 #[.string (T.extract st.pos T.size), .string ⟨#[102, 105, 108, 101, 32]⟩] w' (fun e w'' => e = .returned (.bool (fileAt T st.pos)) ∧ w'' = w') from Tryz.strings_HasPrefix _ _ w')
      cases hf : fileAt T st.pos
      · rw [hf] at HP
        go_wp2
        go_quiet ((go_at_call 42; exact Calls.quiet_of_same (HP.out _)))
        go_wp2
        have hrd2 := hrd.drewN nq
        have hbel2 := below_drewN hbel nq
        clear k0 k1 hrd hbel hbl
        go_loopw [] (fun wr => ∃ (st : RSt) (vF vL : Value), (fileAt T st.pos = false ∨ st.looks ≠ []) ∧ ARd wr B b T (c : Nat) t (d : Nat) st vF vL ∧ runS T st = runS T ⟨p, [], []⟩ ∧ Below B w wr) (fun wr => T.size - posOf wr b)
        case atStart => exact ⟨st, vF, vL, .inl hf, hrd2, HRun.out, hbel2⟩
        case round =>
          clear hrd2 hbel2 hf HRun hlk hq hqI HP
          obtain ⟨st1, vF1, vL1, hor, hrd, hrun, hbel⟩ := hrel
          have HRun := Lib.hid hrun; clear hrun
          have HO := Lib.hid (step_look hor); clear hor
          obtain ⟨⟨k0, k1, _, _, _, _, _⟩, _, hbl⟩ := rb_cells hrd.blk
          by_cases hlt : st1.pos < T.size
          · have hd : decide ((st1.pos : Int) < (T.size : Int)) = true := decide_eq_true (by omega)
            have hdI : (st1.pos : Int) < (T.size : Int) := by omega
            go_wp2
            go_quiet (fail)
            have hrd2 := hrd.drewN nq
            have hbel2 := below_drewN hbel nq
            go_wp2_with fail
            refine (act_look T B b _ (hE.below hbel2 hnB) (Nat.le_trans hBw hbel2.size) hrd2 hT).mono ?_
            rintro e w3 ⟨hb3, ha⟩
            cases hs : lookStep T st1 with
            | error z =>
              rw [hs] at ha
              obtain ⟨rfl, vF', vL', blk3⟩ := ha
              have HV := Lib.hid (show readB T = .error z by rw [HR.out, ← HRun.out, run_stop hlt (by rw [HO.out, hs])])
              go_wp2
              go_ret
              exact AllAns.bad HV.out (hbel2.trans hb3) blk3
            | ok st2 =>
              rw [hs] at ha
              obtain ⟨rfl, vF', vL', hrd3⟩ := ha
              have HS := Lib.hid (show stepS T st1 = .ok st2 by rw [HO.out, hs])
              obtain ⟨x, _, hx, _⟩ := look_wrote hs
              have HN := Lib.hid (show fileAt T st2.pos = false ∨ st2.looks ≠ [] from .inr (by rw [hx]; simp))
              clear hs hx
              go_wp2
              go_roundw
              case rel => exact ⟨st2, vF', vL', HN.out, hrd3, by rw [← HRun.out, run_round hlt HS.out], hbel2.trans hb3⟩
              case measure =>
                have h1 := step_place HS.out
                rw [posOf_rd hrd, posOf_rd hrd3]
                omega
          · have hd : decide ((st1.pos : Int) < (T.size : Int)) = false := decide_eq_false (by omega)
            have HV := Lib.hid (show readB T = .ok ⟨(c : Nat), t, st1.files, st1.looks, (d : Nat)⟩ by rw [HR.out, ← HRun.out, run_end (by omega)])
            go_wp2
            go_quiet (fail)
            go_wp2
            go_ret
            exact AllAns.good HV.out (below_drewN hbel nq) (hrd.drewN nq)
      · rw [hf] at HP
        have hlt := file_has hf
        have HO := Lib.hid (step_file hf hlk)
        go_wp2
        go_quiet ((go_at_call 42; exact Calls.quiet_of_same (HP.out _)))
        have hrd2 := hrd.drewN nq
        have hbel2 := below_drewN hbel nq
        go_wp2_with fail
        refine (act_file T B b _ (hE.below hbel2 hnB) (Nat.le_trans hBw hbel2.size) hrd2 hT).mono ?_
        rintro e w3 ⟨hb3, ha⟩
        cases hs : fileStep T st with
        | error z =>
          rw [hs] at ha
          obtain ⟨rfl, vF', vL', blk3⟩ := ha
          have HV := Lib.hid (show readB T = .error z by rw [HR.out, ← HRun.out, run_stop hlt (by rw [HO.out, hs])])
          go_wp2
          go_ret
          exact AllAns.bad HV.out (hbel2.trans hb3) blk3
        | ok st2 =>
          rw [hs] at ha
          obtain ⟨rfl, vF', vL', hrd3⟩ := ha
          have HS := Lib.hid (show stepS T st = .ok st2 by rw [HO.out, hs])
          obtain ⟨x, _, hx, _⟩ := file_wrote hs
          have HN := Lib.hid (show st2.looks = [] by rw [hx, hlk])
          clear hs hx
          go_wp2
          go_roundw
          case rel => exact ⟨st2, vF', vL', HN.out, hrd3, by rw [← HRun.out, run_round hlt HS.out], hbel2.trans hb3⟩
          case measure =>
            have h1 := step_place HS.out
            rw [posOf_rd hrd, posOf_rd hrd3]
            omega
end Go.Proofs.Sm

namespace Go.Proofs.Sm
open Go.RowKit

/-- what ReadResult answers -/
def ReadAns (T : ByteArray) (w : World) (e : Ending) (w' : World) : Prop := ∃ A n n' B m m', e = .returned (.tuple #[resVal (readResS T).1 A n n' B m m', .int .i64 (readResS T).2.1, .int .i64 (readResS T).2.2]) ∧
  ResIs w' (readResS T).1 A n B m ∧ n ≤ n' ∧ n' ≤ maxLen ∧ m ≤ m' ∧ m' ≤ maxLen ∧ Below w.heap.size w w'
theorem noRes (w : World) : ResIs w noResult none 0 none 0 := ⟨⟨by decide, by decide⟩, by decide, Sl.nil, Sl.nil, ⟨by decide, by decide⟩⟩
theorem ReadAns.zero {T : ByteArray} {w w' : World} {k f : Int} (h : readResS T = (noResult, k, f)) (hb : Below w.heap.size w w') :
    ReadAns T w (.returned (.tuple #[.agg #[.int .i64 0, .string ⟨#[]⟩, .slice none 0 0, .slice none 0 0, .int .i64 0], .int .i64 k, .int .i64 f])) w' :=
  ⟨none, 0, 0, none, 0, 0, by rw [h]; rfl, by rw [h]; exact noRes w', Nat.le_refl _, Nat.zero_le _, Nat.le_refl _, Nat.zero_le _, hb⟩
theorem ReadAns.full {T : ByteArray} {w w' : World} {r : ResultV} {A : Option Addr} {n n' : Nat} {B : Option Addr} {m m' : Nat} (h : readResS T = (r, 0, 0)) (hr : ResIs w' r A n B m) (h1 : n ≤ n') (h2 : n' ≤ maxLen) (h3 : m ≤ m') (h4 : m' ≤ maxLen) (hb : Below w.heap.size w w') :
    ReadAns T w (.returned (.tuple #[.agg #[.int .i64 r.code, .string r.text, .slice A n n', .slice B m m', .int .i64 r.command], .int .i64 0, .int .i64 0])) w' :=
  ⟨A, n, n', B, m, m', by rw [h]; rfl, by rw [h]; exact hr, h1, h2, h3, h4, hb⟩
theorem read_facts {T : ByteArray} {r : ResultV} (h : readB T = .ok r) (hT : T.size ≤ 4000000) : InInt r.code ∧ InInt r.command ∧ r.text.size ≤ maxLen := by
  rw [readB] at h
  split at h
  · cases h
  · rename_i c d t p htop
    split at h
    · cases h
    · cases h
      obtain ⟨h1, h2, h3, _⟩ := top_facts htop
      exact ⟨⟨by show _ ≤ (c : Int); omega, by show (c : Int) ≤ _; omega⟩, ⟨by show _ ≤ (d : Int); omega, by show (d : Int) ≤ _; omega⟩, by unfold maxLen; show t.size ≤ _; omega⟩
theorem readRes_large {T : ByteArray} (h : (4000000 : Int) < T.size) : readResS T = (noResult, 0, 2) := by rw [readResS, if_pos h]
theorem readRes_bad {T : ByteArray} {p : Nat} (h : ¬ (4000000 : Int) < T.size) (h1 : readB T = .error p) : readResS T = (noResult, ((p : Nat) : Int), 10) := by rw [readResS, if_neg h, h1]
theorem readRes_wrong {T : ByteArray} {r : ResultV} (h : ¬ (4000000 : Int) < T.size) (h1 : readB T = .ok r) (h2 : checkResultS r ≠ 0) : readResS T = (noResult, 0, checkResultS r) := by rw [readResS, if_neg h, h1]; simp only; rw [if_neg h2]
theorem readRes_right {T : ByteArray} {r : ResultV} (h : ¬ (4000000 : Int) < T.size) (h1 : readB T = .ok r) (h2 : checkResultS r = 0) : readResS T = (r, 0, 0) := by rw [readResS, if_neg h, h1]; simp only; rw [if_pos h2]

/-- the result's own block -/
def RZ : Obj := .cells #[.int .i64 0, .string ⟨#[]⟩, .slice none 0 0, .slice none 0 0, .int .i64 0] 25 (0, 0)
theorem rz_cells {w : World} {b : Nat} (h : w.heap[b]? = some RZ) : (w.cell? ⟨b, 0, none⟩ = some (.int .i64 0) ∧ w.cell? ⟨b, 1, none⟩ = some (.string ⟨#[]⟩) ∧ w.cell? ⟨b, 2, none⟩ = some (.slice none 0 0) ∧ w.cell? ⟨b, 3, none⟩ = some (.slice none 0 0) ∧ w.cell? ⟨b, 4, none⟩ = some (.int .i64 0)) ∧
    (w.frozen? ⟨b, 0, none⟩ = false ∧ w.frozen? ⟨b, 1, none⟩ = false ∧ w.frozen? ⟨b, 2, none⟩ = false ∧ w.frozen? ⟨b, 3, none⟩ = false ∧ w.frozen? ⟨b, 4, none⟩ = false) ∧ b < w.heap.size := by
  refine ⟨⟨?_, ?_, ?_, ?_, ?_⟩, ⟨?_, ?_, ?_, ?_, ?_⟩, heap_lt h⟩
  all_goals first
    | (rw [Lib.cell_of_heap (show w.heap[b]? = some (.cells _ _ _) from h)]; rfl)
    | exact Lib.frozen_of_heap (show w.heap[b]? = some (.cells _ _ _) from h) _
theorem read_full {T : ByteArray} {w w2 W : World} {r : ResultV} {A : Option Addr} {n' : Nat} {B : Option Addr} {m' B0 g : Nat} (h : readResS T = (r, 0, 0))
    (hF : RowOwn w2 B0 65 5 (.slice A r.files.length n') r.files) (hL : RowOwn w2 B0 57 5 (.slice B r.looks.length m') r.looks) (hg : Kind 25 w2 g) (hW : ∀ k, k ≠ g → W.heap[k]? = w2.heap[k]?)
    (hc : InInt r.code ∧ InInt r.command ∧ r.text.size ≤ maxLen) (hb : Below w.heap.size w W) :
    ReadAns T w (.returned (.tuple #[.agg #[.int .i64 r.code, .string r.text, .slice A r.files.length n', .slice B r.looks.length m', .int .i64 r.command], .int .i64 0, .int .i64 0])) W := by
  have hF2 : RowOwn W B0 65 5 (.slice A r.files.length n') r.files := hF.keep (fun k hk => hW k (kind_ne hk hg (by decide))) (fun k hk => hW k (kind_ne (hF.kind k hk).2 hg (by decide)))
  have hL2 : RowOwn W B0 57 5 (.slice B r.looks.length m') r.looks := hL.keep (fun k hk => hW k (kind_ne hk hg (by decide))) (fun k hk => hW k (kind_ne (hL.kind k hk).2 hg (by decide)))
  obtain ⟨A1, c1, e1, f1, f2, f3⟩ := hF2.sl
  obtain ⟨B1, d1, e2, l1, l2, l3⟩ := hL2.sl
  cases e1; cases e2
  exact ReadAns.full h ⟨hc.1, hc.2.2, f3, l3, hc.2.1⟩ f1 f2 l1 l2 hb

set_option maxHeartbeats 2000000 in
set_option maxRecDepth 100000 in
theorem act_ReadResult (T : ByteArray) (w : World) (hE : Env w) (hs : T.size ≤ maxLen) :
    Calls Tryz.prog 7 #[.string T] w fun e w' => ReadAns T w e w' := by
  have hm : T.size ≤ 9223372036854775807 := hs
  by_cases hl : (4000000 : Int) < T.size
  · have HV := Lib.hid (readRes_large hl)
    go_enter Tryz.func7, Tryz.ntmps7
    go_wp2
    (try simp only [Exit.inBlock, Exit.then])
    refine bodyPost_ret (v := .tuple #[.agg #[.int .i64 0, .string ⟨#[]⟩, .slice none 0 0, .slice none 0 0, .int .i64 0], .int .i64 0, .int .i64 2]) (by simp [results, Tryz.results7, go_sem]) rfl ?_
    exact ReadAns.zero HV.out (fr_alloc (fr_refl w) _)
  · have hT : T.size ≤ 4000000 := by omega
    have HL := Lib.hid hl
    go_enter Tryz.func7, Tryz.ntmps7
    go_wp2_with fail
    generalize hW0 : (w.alloc (.cells #[.int .i64 0, .string ⟨#[]⟩, .slice none 0 0, .slice none 0 0, .int .i64 0] 25)).alloc (.cells #[.string T, .int .i64 0, .int .i64 0, .string ⟨#[]⟩, .slice none 0 0, .slice none 0 0, .int .i64 0] 47) = W0
    have hb0 : Below w.heap.size w W0 := by rw [← hW0]; exact fr_alloc (fr_alloc (fr_refl w) _) _
    have hsz : W0.heap.size = w.heap.size + 2 := by rw [← hW0]; simp
    have hblk : W0.heap[w.heap.size + 1]? = some (RB T 0 0 ⟨#[]⟩ (.slice none 0 0) (.slice none 0 0) 0) := by
      rw [← hW0]
      have := heap_alloc_new (w.alloc (.cells #[.int .i64 0, .string ⟨#[]⟩, .slice none 0 0, .slice none 0 0, .int .i64 0] 25)) (RB T 0 0 ⟨#[]⟩ (.slice none 0 0) (.slice none 0 0) 0)
      simpa [RB] using this
    have hres : W0.heap[w.heap.size]? = some RZ := by
      rw [← hW0]
      exact ((fr_alloc (fr_refl (w.alloc _)) _).block w.heap.size (by simp)).trans (heap_alloc_new w _)
    clear hW0
    refine (act_all T (w.heap.size + 1) (w.heap.size + 1) _ (hE.then_ hb0) (Nat.le_trans hE.size (Nat.le_succ _)) (by omega) (Nat.le_refl _) hblk hT).mono ?_
    rintro e w1 ⟨hb1, ha⟩
    have hres1 : w1.heap[w.heap.size]? = some RZ := (hb1.block _ (by omega)).trans hres
    have hbel : Below w.heap.size w w1 := hb0.trans (hb1.mono (by omega))
    obtain ⟨⟨z0, z1, z2, z3, z4⟩, ⟨y0, y1, y2, y3, y4⟩, hzl⟩ := rz_cells hres1
    clear hres hb0 hsz hblk hb1
    cases hr : readB T with
    | error p =>
      rw [hr] at ha
      obtain ⟨rfl, c, t, d, vF, vL, blk1⟩ := ha
      have HV := Lib.hid (readRes_bad (by omega) hr)
      obtain ⟨⟨k0, k1, _, _, _, _, _⟩, _, hbl⟩ := rb_cells blk1
      go_wp2
      go_region
      go_wp2
      (try simp only [Exit.inBlock, Exit.then])
      refine bodyPost_ret (v := .tuple #[.agg #[.int .i64 0, .string ⟨#[]⟩, .slice none 0 0, .slice none 0 0, .int .i64 0], .int .i64 (p : Nat), .int .i64 10]) (by simp [results, Tryz.results7, go_sem, z0, z1, z2, z3, z4]) rfl ?_
      exact ReadAns.zero HV.out (by repeat (first | exact hbel | refine fr_set ?_ (Nat.le_refl _) _ | refine Below.drew ?_))
    | ok r =>
      rw [hr] at ha
      obtain ⟨rfl, p, vF, vL, hrd⟩ := ha
      obtain ⟨A, n', rfl, f1, f2, f3⟩ := hrd.files.sl
      obtain ⟨B, m', rfl, l1, l2, l3⟩ := hrd.looks.sl
      obtain ⟨g1, g2, g3⟩ := read_facts hr hT
      have hri : ResIs w1 r A r.files.length B r.looks.length := ⟨g1, g3, f3, l3, g2⟩
      obtain ⟨⟨k0, k1, k2, k3, k4, k5, k6⟩, _, hbl⟩ := rb_cells hrd.blk
      have HRI := Lib.hid hri
      have HC := Lib.hid (act_CheckResult r A r.files.length n' B r.looks.length m' w1 (hE.then_ hbel) hri)
      unfold resVal at HC
      have HG := Lib.hid (show InInt r.code ∧ InInt r.command ∧ r.text.size ≤ maxLen from ⟨g1, g2, g3⟩)
      clear hri f3 l3 g1 g2 g3
      cases hc : (checkResultS r == 0)
      · have hne : checkResultS r ≠ 0 := by simpa using hc
        have hbn : (checkResultS r != 0) = true := by simpa using hc
        have HV := Lib.hid (readRes_wrong (by omega) hr hne)
        clear hne
        go_wp2_with fail
        refine HC.out.mono ?_
        rintro e w2 ⟨rfl, hb2⟩
        have hbel2 := fr_call hbel hb2
        obtain ⟨⟨z0, z1, z2, z3, z4⟩, ⟨y0, y1, y2, y3, y4⟩, hzl⟩ := rz_cells ((hb2.block _ hzl).trans hres1)
        go_wp2
        (try simp only [Exit.inBlock, Exit.then])
        refine bodyPost_ret (v := .tuple #[.agg #[.int .i64 0, .string ⟨#[]⟩, .slice none 0 0, .slice none 0 0, .int .i64 0], .int .i64 0, .int .i64 (checkResultS r)]) (by simp [results, Tryz.results7, go_sem, z0, z1, z2, z3, z4]) rfl ?_
        exact ReadAns.zero HV.out (by repeat (first | exact hbel2 | refine fr_set ?_ (Nat.le_refl _) _ | refine Below.drew ?_))
      · have hz : checkResultS r = 0 := by simpa using hc
        have hbn : (checkResultS r != 0) = false := by simpa using hc
        have HV := Lib.hid (readRes_right (by omega) hr hz)
        clear hz
        go_wp2_with fail
        refine HC.out.mono ?_
        rintro e w2 ⟨rfl, hb2⟩
        have hbel2 := fr_call hbel hb2
        have hzl0 := hzl
        obtain ⟨⟨z0, z1, z2, z3, z4⟩, ⟨y0, y1, y2, y3, y4⟩, hzl⟩ := rz_cells ((hb2.block _ hzl).trans hres1)
        obtain ⟨⟨k0, k1, k2, k3, k4, k5, k6⟩, _, hbl⟩ := rb_cells (rb_call hrd.blk hb2)
        go_wp2
        (try simp only [Exit.inBlock, Exit.then])
        refine bodyPost_ret (v := .tuple #[.agg #[.int .i64 r.code, .string r.text, .slice A r.files.length n', .slice B r.looks.length m', .int .i64 r.command], .int .i64 0, .int .i64 0]) (by simp [results, Tryz.results7, go_sem, z0, z1, z2, z3, z4]) rfl ?_
        refine read_full HV.out (hrd.call hb2).files (hrd.call hb2).looks (g := w.heap.size) ⟨_, _, (hb2.block _ hzl0).trans hres1⟩ (fun k hk => ?_) HG.out (by repeat (first | exact hbel2 | refine fr_set ?_ (Nat.le_refl _) _ | refine Below.drew ?_))
        repeat (refine (heap_setCell_other _ ⟨w.heap.size, _, none⟩ k _ hk).trans ?_)
        rfl
end Go.Proofs.Sm
