/- The looks of a result are right ones, and stand over the files over which it was executed; looks in files stand in these: the given statement, for all arguments; no condition. -/
import Derived.Test.YtkdogcpgbogkhaaGreatDoorH18x13
import Derived.Test.YtkdogcpgbogkhaaGreatDoorCards
import Derived.Test.YtkdogcpgbogkhaaGreatDoorTie
import Derived.OpenShut
import Derived.ShutString
import Derived.ChangeOld
import Derived.Deep.DeepHandedRow
import Derived.Deep.DeepWitnessRowRef
import Derived.Lib.LaidU8
import Derived.Lib.LaidTab
import Derived.Test.YtkdogcpgbogkhaaGreatDoorH18x8
import Derived.Lib.LaidIn
import Derived.Test.YtkdogcpgbogkhaaGreatDoorH18x9
import Derived.Test.YtkdogcpgbogkhaaGreatDoorCardZRC16
namespace Go.Proofs.Sm
open Go.RowKit

theorem looksErr_by : ∀ {l : List Look} {prev : Option ByteArray}, looksErr prev l = 0 → (∀ q, prev = some q → ∀ y ∈ l, ltS q y.path = true) ∧ ByPath Look.path l
  | [], _, _ => ⟨fun _ _ _ hy => absurd hy (List.not_mem_nil), List.Pairwise.nil⟩
  | x :: l, prev, h => by
    rw [looksErr] at h
    split at h
    · rename_i h0
      obtain ⟨h1, h2⟩ := looksErr_by h
      have hx : ∀ q, prev = some q → ltS q x.path = true := by
        intro q hq
        subst hq
        unfold lookErr at h0
        split at h0
        · omega
        split at h0
        · omega
        split at h0
        · omega
        split at h0
        · omega
        rename_i h9
        exact leS_lt (by simpa [notAfter] using h9)
      refine ⟨fun q hq y hy => ?_, List.pairwise_cons.2 ⟨fun y hy => h1 x.path rfl y hy, h2⟩⟩
      rcases List.mem_cons.1 hy with rfl | hy
      · exact hx q hq
      · exact ltS_trans (hx q hq) (h1 _ rfl y hy)
    · rename_i h0; exact absurd h h0
theorem looks_by {l : List Look} (h : checkLooksS l = 0) : ByPath Look.path l := by
  unfold checkLooksS at h
  split at h
  · omega
  · exact (looksErr_by h).2
theorem looksOf_parts {l : List Look} {F : List FileV} (h : looksOfErr l F = 0) : checkLooksS l = 0 ∧ checkFilesS F = 0 := by
  unfold looksOfErr at h
  split at h
  · rename_i h1; exact absurd h h1
  · rename_i h1; exact ⟨Classical.not_not.1 h1, h⟩
/-- looks that are as they are in the files stand -/
theorem stands_from {l : List Look} {F : List FileV} (hc : checkLooksS l = 0) (hF : checkFilesS F = 0) (h : l.map (fun y => lookAtS F y.path) = l) : looksOfErr l F = 0 ∧ sameLooksS l (looksOfS l F) = true := by
  have e : looksOfErr l F = 0 := by rw [looksOfErr, if_neg (by rw [hc]; simp), hF]
  refine ⟨e, sameLooksS_iff.2 ?_⟩
  rw [looksOfS, if_pos e, looksAtS, h]
theorem stands_of {l : List Look} {F : List FileV} (h : looksOfErr l F = 0) : looksOfErr (looksOfS l F) F = 0 ∧ sameLooksS (looksOfS l F) (looksOfS (looksOfS l F) F) = true := by
  obtain ⟨h1, h2⟩ := looksOf_parts h
  have e : looksOfS l F = l.map fun x => lookAtS F x.path := by rw [looksOfS, if_pos h]; rfl
  have hp : ByPath Look.path (l.map fun x => lookAtS F x.path) := by
    unfold ByPath
    rw [List.pairwise_map]
    refine (looks_by h1).imp fun {x y} hxy => ?_
    rw [lookAt_path, lookAt_path]; exact hxy
  have hall : ∀ y ∈ l.map (fun x => lookAtS F x.path), y = lookAtS F y.path ∧ IsP y.path := by
    intro y hy
    obtain ⟨x, hx, rfl⟩ := List.mem_map.1 hy
    rw [lookAt_path]
    exact ⟨rfl, (looks_all h1 x hx).1⟩
  rw [e]
  refine stands_from ?_ h2 ?_
  · have := checkLooks_len h1
    rw [checkLooksS, List.length_map, if_neg (by omega)]
    exact looksErr_from hp hall fun q hq => by cases hq
  · rw [List.map_map]
    refine List.map_congr_left fun x _ => ?_
    show lookAtS F (lookAtS F x.path).path = lookAtS F x.path
    rw [lookAt_path]
theorem exec_right {a : ActionV} {F : List FileV} (h : bothErr a F = 0) : LooksRight a F ∧ ResultRight a F ∧ checkFilesS F = 0 := by
  obtain ⟨h1, h2, _⟩ := both_ok h
  obtain ⟨h3, h4⟩ := action_parts h1
  exact ⟨looks_right h3 (checkAction_ok h1).commands (files_isP h2) (checkFiles_len h2), result_right h3 (checkAction_ok h1).commands h4 (files_isP h2) (checkFiles_len h2), h2⟩
theorem stands_exec {a : ActionV} {F : List FileV} (h : bothErr a F = 0) : looksOfErr (execS a F).looks F = 0 ∧ sameLooksS (execS a F).looks (looksOfS (execS a F).looks F) = true :=
  stands_from (exec_right h).1.right (exec_right h).2.2 (exec_right h).1.stand
theorem act_box (w : World) (a : ActionV) (A : Option Addr) (n n' : Nat) (B : Option Addr) (m m' : Nat) (C : Option Addr) (p p' : Nat) (D : Option Addr) (q q' : Nat) : Arr (w.alloc (.cells #[.string a.tool, .slice A n n', .slice B m m', .slice C p p', .slice D q q', .int .i64 a.time] 26)) w.heap.size 26 [.string a.tool, .slice A n n', .slice B m m', .slice C p p', .slice D q q', .int .i64 a.time] :=
  heap_alloc_new w _
set_option maxHeartbeats 2000000 in
set_option maxRecDepth 100000 in
theorem law_stand (a : ActionV) (A : Option Addr) (n n' : Nat) (B : Option Addr) (m m' : Nat) (C : Option Addr) (p p' : Nat) (D : Option Addr) (q q' : Nat) (L : Option Addr) (nl cl : Nat) (F : List FileV) (E : Option Addr) (ne ce : Nat) (l : List Look) (w : World) (hE : Env2 w) (ha : ActIs w a A n B m C p D q) (hF : Sl w (Lt w.heap.size) L nl F) (hl : Sl w (Lt w.heap.size) E ne l) :
    Calls Tryz.prog 5 #[actVal a A n n' B m m' C p p' D q q', .slice L nl cl, .slice E ne ce] w fun e w' => e = .returned (.bool true) ∧ Below w.heap.size w w' := by
  have hba := fr_alloc (fr_refl w) (.cells #[.string a.tool, .slice A n n', .slice B m m', .slice C p p', .slice D q q', .int .i64 a.time] 26)
  have HA := Lib.hid (fun wx (hb : Below (w.alloc (.cells #[.string a.tool, .slice A n n', .slice B m m', .slice C p p', .slice D q q', .int .i64 a.time] 26)).heap.size (w.alloc (.cells #[.string a.tool, .slice A n n', .slice B m m', .slice C p p', .slice D q q', .int .i64 a.time] 26)) wx) => (act_box w a A n n' B m m' C p p' D q q').call hb)
  have HL := Lib.hid (act_LooksOf E L ne ce nl cl l F _ (hE.then_ hba).toEnv (sl_call hl hba (Nat.le_refl _)) (sl_call hF hba (Nat.le_refl _)))
  rcases Decidable.em (¬ bothErr a F = 0) with hbad | hok
  · have HX := Lib.hid (fun w1 (hb : Below w.heap.size w w1) => exec_bad a A n n' B m m' C p p' D q q' L nl cl F w1 (hE.then_ hb) (ha.then_ hb) (sl_call hF hb (Nat.le_refl _)) hbad)
    have hb0 : (bothErr a F == 0) = false := by simpa using hbad
    unfold actVal resVal noResult at *
    clear hbad ha hl
    generalize bothErr a F = z at *
    go_enter Tryz.func5, Tryz.ntmps5
    go_wp2_with fail
    refine HL.out.mono ?_
    rintro e w1 ⟨A1, n1, c1, rfl, _, _, s1, b1⟩
    rcases Decidable.em (¬ looksOfErr l F = 0) with hl0 | hl0
    · have hlb : (looksOfErr l F == 0) = false := by simpa using hl0
      generalize looksOfErr l F = z1 at *
      clear s1
      have z0 := (HA.out _ b1).cell (i := 0) rfl
      have z1 := (HA.out _ b1).cell (i := 1) rfl
      have z2 := (HA.out _ b1).cell (i := 2) rfl
      have z3 := (HA.out _ b1).cell (i := 3) rfl
      have z4 := (HA.out _ b1).cell (i := 4) rfl
      have z5 := (HA.out _ b1).cell (i := 5) rfl
      have hzl := (HA.out _ b1).lt
      go_wp2_with fail
      refine (HX.out _ (fr_box (fr_refl w) b1)).mono ?_
      rintro e w8 ⟨rfl, hb8⟩
      have hb9 := fr_alloc (fr_call (fr_box (fr_refl w) b1) hb8) (.cells #[.int .i64 0, .string ⟨#[]⟩, .slice none 0 0, .slice none 0 0, .int .i64 0] 30)
      clear z0 z1 z2 z3 z4 z5
      go_wp2_with fail
      refine (law5_awake _ (hE.then_ hb9).toEnv).mono ?_
      rintro e w9 ⟨rfl, hb10⟩
      go_wp2
      go_ret
      exact ⟨rfl, fr_call hb9 hb10⟩
    · have hl0 : looksOfErr l F = 0 := Decidable.not_not.1 hl0
      have HS := Lib.hid (act_Stands A1 L n1 c1 nl cl (looksOfS l F) F w1 (hE.then_ (fr_box (fr_refl w) b1)).toEnv s1 (sl_call hF (fr_box (fr_refl w) b1) (Nat.le_refl _)))
      rw [(stands_of hl0).1, (stands_of hl0).2] at HS
      rw [hl0]
      clear s1
      go_wp2_with fail
      refine HS.out.mono ?_
      rintro e w2 ⟨rfl, b2⟩
      have b3 := b1.trans (b2.mono b1.size)
      clear b1 b2
      have z0 := (HA.out _ b3).cell (i := 0) rfl
      have z1 := (HA.out _ b3).cell (i := 1) rfl
      have z2 := (HA.out _ b3).cell (i := 2) rfl
      have z3 := (HA.out _ b3).cell (i := 3) rfl
      have z4 := (HA.out _ b3).cell (i := 4) rfl
      have z5 := (HA.out _ b3).cell (i := 5) rfl
      have hzl := (HA.out _ b3).lt
      go_wp2_with fail
      refine (HX.out _ (fr_box (fr_refl w) b3)).mono ?_
      rintro e w8 ⟨rfl, hb8⟩
      have hb9 := fr_alloc (fr_call (fr_box (fr_refl w) b3) hb8) (.cells #[.int .i64 0, .string ⟨#[]⟩, .slice none 0 0, .slice none 0 0, .int .i64 0] 30)
      clear z0 z1 z2 z3 z4 z5
      go_wp2_with fail
      refine (law5_awake _ (hE.then_ hb9).toEnv).mono ?_
      rintro e w9 ⟨rfl, hb10⟩
      go_wp2
      go_ret
      exact ⟨rfl, fr_call hb9 hb10⟩
  · have hok : bothErr a F = 0 := Decidable.not_not.1 hok
    have HX := Lib.hid (fun w1 (hb : Below w.heap.size w w1) => exec_ok a A n n' B m m' C p p' D q q' L nl cl F w1 (hE.then_ hb) (ha.then_ hb) (sl_call hF hb (Nat.le_refl _)) hok)
    have HV := Lib.hid (stands_exec hok)
    unfold ExecPost at HX
    generalize execS a F = R at *
    obtain ⟨code, text, fs, looks, cmd⟩ := R
    unfold actVal resVal at *
    simp only at HX HV
    clear hok ha hl
    go_enter Tryz.func5, Tryz.ntmps5
    go_wp2_with fail
    refine HL.out.mono ?_
    rintro e w1 ⟨A1, n1, c1, rfl, _, _, s1, b1⟩
    rcases Decidable.em (¬ looksOfErr l F = 0) with hl0 | hl0
    · have hlb : (looksOfErr l F == 0) = false := by simpa using hl0
      generalize looksOfErr l F = z1 at *
      clear s1
      have z0 := (HA.out _ b1).cell (i := 0) rfl
      have z1 := (HA.out _ b1).cell (i := 1) rfl
      have z2 := (HA.out _ b1).cell (i := 2) rfl
      have z3 := (HA.out _ b1).cell (i := 3) rfl
      have z4 := (HA.out _ b1).cell (i := 4) rfl
      have z5 := (HA.out _ b1).cell (i := 5) rfl
      have hzl := (HA.out _ b1).lt
      go_wp2_with fail
      refine (HX.out _ (fr_box (fr_refl w) b1)).mono ?_
      rintro e w8 ⟨A1, n1, c1, A2, n2, c2, rfl, hr8, hb8⟩
      have hb9 := fr_alloc (fr_call (fr_box (fr_refl w) b1) hb8) (.cells #[.int .i64 code, .string text, .slice A1 n1 c1, .slice A2 n2 c2, .int .i64 cmd] 30)
      have hl9 := sl_call hr8.looks (fr_alloc (fr_refl w8) (.cells #[.int .i64 code, .string text, .slice A1 n1 c1, .slice A2 n2 c2, .int .i64 cmd] 30)) (Nat.le_refl _)
      have HS := Lib.hid (act_Stands A2 L n2 c2 nl cl looks F _ (hE.then_ hb9).toEnv hl9 (sl_call hF hb9 (Nat.le_refl _)))
      rw [HV.out.1, HV.out.2] at HS
      clear z0 z1 z2 z3 z4 z5 hr8 hl9
      go_wp2_with fail
      refine HS.out.mono ?_
      rintro e w9 ⟨rfl, hb10⟩
      have hb11 := fr_call hb9 hb10
      go_wp2_with fail
      refine (law5_awake _ (hE.then_ hb11).toEnv).mono ?_
      rintro e w10 ⟨rfl, hb12⟩
      go_wp2
      go_ret
      exact ⟨rfl, fr_call hb11 hb12⟩
    · have hl0 : looksOfErr l F = 0 := Decidable.not_not.1 hl0
      have HS := Lib.hid (act_Stands A1 L n1 c1 nl cl (looksOfS l F) F w1 (hE.then_ (fr_box (fr_refl w) b1)).toEnv s1 (sl_call hF (fr_box (fr_refl w) b1) (Nat.le_refl _)))
      rw [(stands_of hl0).1, (stands_of hl0).2] at HS
      rw [hl0]
      clear s1
      go_wp2_with fail
      refine HS.out.mono ?_
      rintro e w2 ⟨rfl, b2⟩
      have b3 := b1.trans (b2.mono b1.size)
      clear b1 b2 HS
      have z0 := (HA.out _ b3).cell (i := 0) rfl
      have z1 := (HA.out _ b3).cell (i := 1) rfl
      have z2 := (HA.out _ b3).cell (i := 2) rfl
      have z3 := (HA.out _ b3).cell (i := 3) rfl
      have z4 := (HA.out _ b3).cell (i := 4) rfl
      have z5 := (HA.out _ b3).cell (i := 5) rfl
      have hzl := (HA.out _ b3).lt
      go_wp2_with fail
      refine (HX.out _ (fr_box (fr_refl w) b3)).mono ?_
      rintro e w8 ⟨A1, n1, c1, A2, n2, c2, rfl, hr8, hb8⟩
      have hb9 := fr_alloc (fr_call (fr_box (fr_refl w) b3) hb8) (.cells #[.int .i64 code, .string text, .slice A1 n1 c1, .slice A2 n2 c2, .int .i64 cmd] 30)
      have hl9 := sl_call hr8.looks (fr_alloc (fr_refl w8) (.cells #[.int .i64 code, .string text, .slice A1 n1 c1, .slice A2 n2 c2, .int .i64 cmd] 30)) (Nat.le_refl _)
      have HS := Lib.hid (act_Stands A2 L n2 c2 nl cl looks F _ (hE.then_ hb9).toEnv hl9 (sl_call hF hb9 (Nat.le_refl _)))
      rw [HV.out.1, HV.out.2] at HS
      clear z0 z1 z2 z3 z4 z5 hr8 hl9
      go_wp2_with fail
      refine HS.out.mono ?_
      rintro e w9 ⟨rfl, hb10⟩
      have hb11 := fr_call hb9 hb10
      go_wp2_with fail
      refine (law5_awake _ (hE.then_ hb11).toEnv).mono ?_
      rintro e w10 ⟨rfl, hb12⟩
      go_wp2
      go_ret
      exact ⟨rfl, fr_call hb11 hb12⟩
end Go.Proofs.Sm

namespace Go.Proofs.Sm
open Go.RowKit Go.ChangeShapes Go.WideShapes Go.ChangeAt

theorem own : ownKnob Tryz.prog.godebug = none := by kernel_rfl
theorem laidOut : laidOutB Tryz.prog = true := by kernel_rfl

section
variable {H : Type} {enc : TypeId × Value → H} {w : World} {base : Nat} {spare : Nat → Bool} {held : Bool}
theorem at_some {α : Type} {xs : List α} {n i : Nat} (h : xs.length = n) (hi : i < n) : ∃ y, xs[i]? = some y := ⟨xs[i]'(by omega), List.getElem?_eq_getElem _⟩
theorem three_of {α : Type} {l : List α} (h : l.length = 3) : ∃ a b c, l = [a, b, c] := by
  rcases l with _ | ⟨a, _ | ⟨b, _ | ⟨c, _ | ⟨e, r⟩⟩⟩⟩
  · simp at h
  · simp at h
  · simp at h
  · exact ⟨a, b, c, rfl⟩
  · simp at h
theorem dec_look : Dec enc Tryz.prog w base spare held 38 Look := fun fuel cs d h => by
  obtain ⟨xs, n, _, _, hlen, hxl, hf⟩ := DataW.trod_struct Tryz.underlying38 h
  have hc : Tryz.prog.cellsOf 38 = 3 := by kernel_rfl
  have cS : Tryz.prog.cellsOf 9 = 1 := by kernel_rfl
  have cB : Tryz.prog.cellsOf 4 = 1 := by kernel_rfl
  rw [hc] at hlen
  have hxl' : xs.length = 3 := hxl
  obtain ⟨a, b, c, rfl⟩ := three_of hlen
  · -- the three cells
    obtain ⟨y0, e0⟩ := at_some hxl' (show 0 < 3 by decide)
    obtain ⟨y1, e1⟩ := at_some hxl' (show 1 < 3 by decide)
    obtain ⟨y2, e2⟩ := at_some hxl' (show 2 < 3 by decide)
    have f0 : DataW.trod enc Tryz.prog w base spare held n 9 [a] = some y0 := by
      have h := (hf 0 _ rfl).trans e0
      change DataW.trod enc _ w base spare held n 9 (List.take (Tryz.prog.cellsOf 9) (List.drop 0 [a, b, c])) = some y0 at h
      rw [cS] at h
      exact h
    have f1 : DataW.trod enc Tryz.prog w base spare held n 9 [b] = some y1 := by
      have h := (hf 1 _ rfl).trans e1
      change DataW.trod enc _ w base spare held n 9 (List.take (Tryz.prog.cellsOf 9) (List.drop 1 [a, b, c])) = some y1 at h
      rw [cS] at h
      exact h
    have f2 : DataW.trod enc Tryz.prog w base spare held n 4 [c] = some y2 := by
      have h := (hf 2 _ rfl).trans e2
      change DataW.trod enc _ w base spare held n 4 (List.take (Tryz.prog.cellsOf 4) (List.drop 2 [a, b, c])) = some y2 at h
      rw [cB] at h
      exact h
    obtain ⟨s0, h0, _, z0⟩ := DataW.trod_string Tryz.underlying9 f0
    obtain ⟨s1, h1, _, z1⟩ := DataW.trod_string Tryz.underlying9 f1
    obtain ⟨r, h2, _⟩ := DataW.trod_bool Tryz.underlying4 f2
    cases h0; cases h1; cases h2
    exact ⟨⟨s0, s1, r⟩, rfl, z0, z1⟩
theorem dec_bytes : Dec enc Tryz.prog w base spare held 48 (List UInt8) := dec_slice Tryz.underlying48 (by kernel_rfl) (by decide) (dec_u8 Tryz.underlying5)
theorem dec_file : Dec enc Tryz.prog w base spare held 50 FileV := fun fuel cs d h => by
  obtain ⟨xs, n, _, _, hlen, hxl, hf⟩ := DataW.trod_struct Tryz.underlying50 h
  have hc : Tryz.prog.cellsOf 50 = 3 := by kernel_rfl
  have cS : Tryz.prog.cellsOf 9 = 1 := by kernel_rfl
  have cB : Tryz.prog.cellsOf 4 = 1 := by kernel_rfl
  have cL : Tryz.prog.cellsOf 48 = 1 := by kernel_rfl
  rw [hc] at hlen
  have hxl' : xs.length = 3 := hxl
  obtain ⟨a, b, c, rfl⟩ := three_of hlen
  · -- the three cells
    obtain ⟨y0, e0⟩ := at_some hxl' (show 0 < 3 by decide)
    obtain ⟨y1, e1⟩ := at_some hxl' (show 1 < 3 by decide)
    obtain ⟨y2, e2⟩ := at_some hxl' (show 2 < 3 by decide)
    have f0 : DataW.trod enc Tryz.prog w base spare held n 9 [a] = some y0 := by
      have h := (hf 0 _ rfl).trans e0
      change DataW.trod enc _ w base spare held n 9 (List.take (Tryz.prog.cellsOf 9) (List.drop 0 [a, b, c])) = some y0 at h
      rw [cS] at h
      exact h
    have f1 : DataW.trod enc Tryz.prog w base spare held n 4 [b] = some y1 := by
      have h := (hf 1 _ rfl).trans e1
      change DataW.trod enc _ w base spare held n 4 (List.take (Tryz.prog.cellsOf 4) (List.drop 1 [a, b, c])) = some y1 at h
      rw [cB] at h
      exact h
    have f2 : DataW.trod enc Tryz.prog w base spare held n 48 [c] = some y2 := by
      have h := (hf 2 _ rfl).trans e2
      change DataW.trod enc _ w base spare held n 48 (List.take (Tryz.prog.cellsOf 48) (List.drop 2 [a, b, c])) = some y2 at h
      rw [cL] at h
      exact h
    obtain ⟨s0, h0, _, z0⟩ := DataW.trod_string Tryz.underlying9 f0
    obtain ⟨r, h1, _⟩ := DataW.trod_bool Tryz.underlying4 f1
    obtain ⟨bs, A, k, m, h2, q1, q2, q3⟩ := dec_bytes _ _ _ f2
    cases h0; cases h1; cases h2
    exact ⟨⟨s0, r, bs⟩, z0, A, k, m, rfl, q1, q2, q3⟩
theorem dec_looks : Dec enc Tryz.prog w base spare held 28 (List Look) := dec_slice Tryz.underlying28 (by kernel_rfl) (by decide) dec_look
theorem dec_files : Dec enc Tryz.prog w base spare held 27 (List FileV) := dec_slice Tryz.underlying27 (by kernel_rfl) (by decide) dec_file
/-- a slice argument, as a value -/
theorem arg_slice {α : Type} [Rep α] {t : TypeId} {v : Value} {d : DataW H} {p : List MemPlace} (hd : Dec enc Tryz.prog w base spare held t (List α)) (hv : ∃ a n c, v = .slice a n c) (h : DataW.Trod enc Tryz.prog w base spare held t v d p) :
    ∃ (A : Option Addr) (n c : Nat) (l : List α), v = .slice A n c ∧ Sl w (Lt w.heap.size) A n l := by
  obtain ⟨a, n, c, rfl⟩ := hv
  obtain ⟨fuel, hf⟩ := h
  obtain ⟨l, A, n', c', e, _, _, hs⟩ := hd _ _ _ hf
  simp [Value.cells] at e
  obtain ⟨rfl, rfl, rfl⟩ := e
  exact ⟨_, _, _, l, rfl, hs⟩
end
theorem first_pinned : Go.Pinned.utf8First = Lib.firstData := by kernel_rfl
theorem accept_laid : YtkdogcpgbogkhaaGreatDoor.Rows.laid_unicode_utf8_acceptRanges = Lib.acceptData := by kernel_rfl
/-- The tables of utf8, and the length that bytealg takes. -/
theorem env_of {laid : List (String × DataW Unit)} {W : World} (hL : laidMet Tryz.prog laid W) (hS : W.ShapedOpen Tryz.prog) (h3 : ("unicode/utf8.first", Go.Pinned.utf8First) ∈ laid) (h4 : ("unicode/utf8.acceptRanges", YtkdogcpgbogkhaaGreatDoor.Rows.laid_unicode_utf8_acceptRanges) ∈ laid) : Env W where
  size := by
    have hsome : (((begin Tryz.prog (fun _ _ => 0) default).world.heap[7]?).bind Obj.row?).isSome = true := by kernel_rfl
    have hlt : 7 < Tryz.prog.globals.size := of_decide_eq_true (by kernel_rfl)
    obtain ⟨⟨zero, t⟩, hz⟩ := Option.isSome_iff_exists.1 hsome
    obtain ⟨cs, hh, _⟩ := hS.1 _ zero t hlt hz
    exact (Array.getElem?_eq_some_iff.1 hh).1
  most := Tryz.laysM143.s1_3 W hS
  utf8 := utf8Tabs_of_reads { Tryz.lays260 with } ⟨by kernel_rfl, by kernel_rfl, by kernel_rfl, by kernel_rfl, by kernel_rfl, by kernel_rfl, by kernel_rfl⟩
    (by have := Lib.laidMet.reads hL h3; rwa [first_pinned] at this) (by have := Lib.laidMet.reads hL h4; rwa [accept_laid] at this)
end Go.Proofs.Sm

namespace Go.Proofs.Sm
open Go.RowKit Go.ChangeShapes Go.WideShapes Go.ChangeAt

section
variable {H : Type} {enc : TypeId × Value → H} {w : World} {base : Nat} {spare : Nat → Bool} {held : Bool}
theorem five_of {α : Type} {l : List α} (h : l.length = 5) : ∃ a b c d e, l = [a, b, c, d, e] := by
  rcases l with _ | ⟨a, _ | ⟨b, _ | ⟨c, _ | ⟨d, _ | ⟨e, _ | ⟨f, r⟩⟩⟩⟩⟩⟩
  all_goals (try (simp at h; done))
  exact ⟨a, b, c, d, e, rfl⟩
theorem result_of {cs : List Value} {fuel : Nat} {d : DataW H × List MemPlace} (h : DataW.trod enc Tryz.prog w base spare held fuel 30 cs = some d) :
    ∃ r A n c B m e, ResIs w r A n B m ∧ cs = [.int .i64 r.code, .string r.text, .slice A n c, .slice B m e, .int .i64 r.command] := by
  obtain ⟨xs, n, _, _, hlen, hxl, hf⟩ := DataW.trod_struct Tryz.underlying30 h
  have hc : Tryz.prog.cellsOf 30 = 5 := by kernel_rfl
  have cI : Tryz.prog.cellsOf 3 = 1 := by kernel_rfl
  have cS : Tryz.prog.cellsOf 9 = 1 := by kernel_rfl
  have cF : Tryz.prog.cellsOf 27 = 1 := by kernel_rfl
  have cL : Tryz.prog.cellsOf 28 = 1 := by kernel_rfl
  rw [hc] at hlen
  have hxl' : xs.length = 5 := hxl
  obtain ⟨a0, a1, a2, a3, a4, rfl⟩ := five_of hlen
  obtain ⟨y0, e0⟩ := at_some hxl' (show 0 < 5 by decide)
  obtain ⟨y1, e1⟩ := at_some hxl' (show 1 < 5 by decide)
  obtain ⟨y2, e2⟩ := at_some hxl' (show 2 < 5 by decide)
  obtain ⟨y3, e3⟩ := at_some hxl' (show 3 < 5 by decide)
  obtain ⟨y4, e4⟩ := at_some hxl' (show 4 < 5 by decide)
  have f0 : DataW.trod enc Tryz.prog w base spare held n 3 [a0] = some y0 := by
    have h := (hf 0 _ rfl).trans e0
    change DataW.trod enc _ w base spare held n 3 (List.take (Tryz.prog.cellsOf 3) (List.drop 0 [a0, a1, a2, a3, a4])) = some y0 at h
    rw [cI] at h
    exact h
  have f1 : DataW.trod enc Tryz.prog w base spare held n 9 [a1] = some y1 := by
    have h := (hf 1 _ rfl).trans e1
    change DataW.trod enc _ w base spare held n 9 (List.take (Tryz.prog.cellsOf 9) (List.drop 1 [a0, a1, a2, a3, a4])) = some y1 at h
    rw [cS] at h
    exact h
  have f2 : DataW.trod enc Tryz.prog w base spare held n 27 [a2] = some y2 := by
    have h := (hf 2 _ rfl).trans e2
    change DataW.trod enc _ w base spare held n 27 (List.take (Tryz.prog.cellsOf 27) (List.drop 2 [a0, a1, a2, a3, a4])) = some y2 at h
    rw [cF] at h
    exact h
  have f3 : DataW.trod enc Tryz.prog w base spare held n 28 [a3] = some y3 := by
    have h := (hf 3 _ rfl).trans e3
    change DataW.trod enc _ w base spare held n 28 (List.take (Tryz.prog.cellsOf 28) (List.drop 3 [a0, a1, a2, a3, a4])) = some y3 at h
    rw [cL] at h
    exact h
  have f4 : DataW.trod enc Tryz.prog w base spare held n 3 [a4] = some y4 := by
    have h := (hf 4 _ rfl).trans e4
    change DataW.trod enc _ w base spare held n 3 (List.take (Tryz.prog.cellsOf 3) (List.drop 4 [a0, a1, a2, a3, a4])) = some y4 at h
    rw [cI] at h
    exact h
  obtain ⟨n0, r0, z0⟩ := dec_int Tryz.underlying3 _ _ _ f0
  obtain ⟨s1, r1, z1⟩ := dec_string Tryz.underlying9 _ _ _ f1
  obtain ⟨l2, A, k2, c2, r2, _, _, z2⟩ := dec_files _ _ _ f2
  obtain ⟨l3, B, k3, c3, r3, _, _, z3⟩ := dec_looks _ _ _ f3
  obtain ⟨n4, r4, z4⟩ := dec_int Tryz.underlying3 _ _ _ f4
  cases r0; cases r1; cases r2; cases r3; cases r4
  exact ⟨⟨n0, s1, l2, l3, n4⟩, A, k2, c2, B, k3, c3, ⟨z0, z1, z2, z3, z4⟩, rfl⟩
end
theorem tab_of_reads {W : World} {name : String} {k : IntKind} {zs : List Int} {g : Nat} {t e : TypeId} {n : Nat} (hg : Tryz.prog.globalNamed name = some g) (hty : (Tryz.prog.globals[g]?).map (·.type) = some t)
    (ht : Tryz.prog.underlying t = some (.array n e)) (he : Tryz.prog.underlying e = some (.int k)) (hce : Tryz.prog.cellsOf e = 1) (hct : Tryz.prog.cellsOf t = n) (h : Lib.VarReads Tryz.prog W name (Lib.tabData k zs)) : Lib.TabIs Tryz.prog W name k zs := by
  obtain ⟨g', t', cs, fuel, p, hg', ht', hvar, hd⟩ := h
  obtain rfl := Option.some.inj (hg.symm.trans hg')
  obtain rfl := Option.some.inj (hty.symm.trans ht')
  unfold Lib.TabIs
  rw [hvar, ← Lib.cells_of_tab ht he hce hct hd]
theorem pow_laid : YtkdogcpgbogkhaaGreatDoor.Rows.laid_internal_strconv_uint64pow10 = Lib.tabData (H := Unit) .u64 Lib.pow10Tab := by kernel_rfl
theorem env2_of {laid : List (String × DataW Unit)} {W : World} (hL : laidMet Tryz.prog laid W) (hS : W.ShapedOpen Tryz.prog) (h3 : ("unicode/utf8.first", Go.Pinned.utf8First) ∈ laid) (h4 : ("unicode/utf8.acceptRanges", YtkdogcpgbogkhaaGreatDoor.Rows.laid_unicode_utf8_acceptRanges) ∈ laid)
    (h5 : ("internal/strconv.uint64pow10", YtkdogcpgbogkhaaGreatDoor.Rows.laid_internal_strconv_uint64pow10) ∈ laid) : Env2 W where
  toEnv := env_of hL hS h3 h4
  pow := tab_of_reads (g := 5) (t := 332) (e := 169) (n := 20) (by kernel_rfl) (by kernel_rfl) Tryz.underlying332 Tryz.underlying169 (by kernel_rfl) (by kernel_rfl) (by have := Lib.laidMet.reads hL h5; rwa [pow_laid] at this)
/-- the cells of plain data -/
def flatD : Nat → DataW Unit → List Value
  | 0, _ => []
  | _ + 1, .lit (.int k n) => [.int k n]
  | f + 1, .agg l => l.flatMap (flatD f)
  | _, _ => []
/-- THE WITNESS's WORLD: the settled one, with plain tables laid. -/
noncomputable def tableWorld (os : Os) (tabs : List (Nat × DataW Unit)) : World :=
  let w0 := World.holding Tryz.prog os ⟨#[], #[], []⟩
  { w0 with heap := tabs.foldl (fun h t => h.modify t.1 fun
    | .cells _ ty frozen => .cells (flatD 4 t.2).toArray ty frozen
    | o => o) w0.heap }
end Go.Proofs.Sm

namespace Go.Proofs.Sm
open Go.RowKit Go.ChangeShapes Go.WideShapes Go.ChangeAt

section
variable {H : Type} {enc : TypeId × Value → H} {w : World} {base : Nat} {spare : Nat → Bool} {held : Bool}
theorem two_of {α : Type} {l : List α} (h : l.length = 2) : ∃ a b, l = [a, b] := by
  rcases l with _ | ⟨a, _ | ⟨b, _ | ⟨c, r⟩⟩⟩
  all_goals (try (simp at h; done))
  exact ⟨a, b, rfl⟩
theorem six_of {α : Type} {l : List α} (h : l.length = 6) : ∃ a b c d e f, l = [a, b, c, d, e, f] := by
  rcases l with _ | ⟨a, _ | ⟨b, _ | ⟨c, _ | ⟨d, _ | ⟨e, _ | ⟨f, _ | ⟨g, r⟩⟩⟩⟩⟩⟩⟩
  all_goals (try (simp at h; done))
  exact ⟨a, b, c, d, e, f, rfl⟩
theorem dec_var : Dec enc Tryz.prog w base spare held 223 VarV := fun fuel cs d h => by
  obtain ⟨xs, n, _, _, hlen, hxl, hf⟩ := DataW.trod_struct Tryz.underlying223 h
  have hc : Tryz.prog.cellsOf 223 = 2 := by kernel_rfl
  have cS : Tryz.prog.cellsOf 9 = 1 := by kernel_rfl
  rw [hc] at hlen
  have hxl' : xs.length = 2 := hxl
  obtain ⟨a, b, rfl⟩ := two_of hlen
  · -- the two cells
    obtain ⟨y0, e0⟩ := at_some hxl' (show 0 < 2 by decide)
    obtain ⟨y1, e1⟩ := at_some hxl' (show 1 < 2 by decide)
    have f0 : DataW.trod enc Tryz.prog w base spare held n 9 [a] = some y0 := by
      have h := (hf 0 _ rfl).trans e0
      change DataW.trod enc _ w base spare held n 9 (List.take (Tryz.prog.cellsOf 9) (List.drop 0 [a, b])) = some y0 at h
      rw [cS] at h
      exact h
    have f1 : DataW.trod enc Tryz.prog w base spare held n 9 [b] = some y1 := by
      have h := (hf 1 _ rfl).trans e1
      change DataW.trod enc _ w base spare held n 9 (List.take (Tryz.prog.cellsOf 9) (List.drop 1 [a, b])) = some y1 at h
      rw [cS] at h
      exact h
    obtain ⟨s0, h0, _, z0⟩ := DataW.trod_string Tryz.underlying9 f0
    obtain ⟨s1, h1, _, z1⟩ := DataW.trod_string Tryz.underlying9 f1
    cases h0; cases h1
    exact ⟨⟨s0, s1⟩, rfl, z0, z1⟩
theorem dec_strs : Dec enc Tryz.prog w base spare held 24 (List ByteArray) := dec_slice Tryz.underlying24 (by kernel_rfl) (by decide) (dec_string Tryz.underlying9)
theorem dec_rows : Dec enc Tryz.prog w base spare held 22 (List (List ByteArray)) := dec_slice Tryz.underlying22 (by kernel_rfl) (by decide) dec_strs
theorem dec_vars : Dec enc Tryz.prog w base spare held 23 (List VarV) := dec_slice Tryz.underlying23 (by kernel_rfl) (by decide) dec_var
theorem action_of {cs : List Value} {fuel : Nat} {d : DataW H × List MemPlace} (h : DataW.trod enc Tryz.prog w base spare held fuel 26 cs = some d) :
    ∃ a A n n' B m m' C p p' D q q', ActIs w a A n B m C p D q ∧ cs = [.string a.tool, .slice A n n', .slice B m m', .slice C p p', .slice D q q', .int .i64 a.time] := by
  obtain ⟨xs, n, _, _, hlen, hxl, hf⟩ := DataW.trod_struct Tryz.underlying26 h
  have hc : Tryz.prog.cellsOf 26 = 6 := by kernel_rfl
  have cI : Tryz.prog.cellsOf 3 = 1 := by kernel_rfl
  have cS : Tryz.prog.cellsOf 9 = 1 := by kernel_rfl
  have cR : Tryz.prog.cellsOf 22 = 1 := by kernel_rfl
  have cV : Tryz.prog.cellsOf 23 = 1 := by kernel_rfl
  have cL : Tryz.prog.cellsOf 24 = 1 := by kernel_rfl
  rw [hc] at hlen
  have hxl' : xs.length = 6 := hxl
  obtain ⟨a0, a1, a2, a3, a4, a5, rfl⟩ := six_of hlen
  obtain ⟨y0, e0⟩ := at_some hxl' (show 0 < 6 by decide)
  obtain ⟨y1, e1⟩ := at_some hxl' (show 1 < 6 by decide)
  obtain ⟨y2, e2⟩ := at_some hxl' (show 2 < 6 by decide)
  obtain ⟨y3, e3⟩ := at_some hxl' (show 3 < 6 by decide)
  obtain ⟨y4, e4⟩ := at_some hxl' (show 4 < 6 by decide)
  obtain ⟨y5, e5⟩ := at_some hxl' (show 5 < 6 by decide)
  have f0 : DataW.trod enc Tryz.prog w base spare held n 9 [a0] = some y0 := by
    have h := (hf 0 _ rfl).trans e0
    change DataW.trod enc _ w base spare held n 9 (List.take (Tryz.prog.cellsOf 9) (List.drop 0 [a0, a1, a2, a3, a4, a5])) = some y0 at h
    rw [cS] at h
    exact h
  have f1 : DataW.trod enc Tryz.prog w base spare held n 22 [a1] = some y1 := by
    have h := (hf 1 _ rfl).trans e1
    change DataW.trod enc _ w base spare held n 22 (List.take (Tryz.prog.cellsOf 22) (List.drop 1 [a0, a1, a2, a3, a4, a5])) = some y1 at h
    rw [cR] at h
    exact h
  have f2 : DataW.trod enc Tryz.prog w base spare held n 23 [a2] = some y2 := by
    have h := (hf 2 _ rfl).trans e2
    change DataW.trod enc _ w base spare held n 23 (List.take (Tryz.prog.cellsOf 23) (List.drop 2 [a0, a1, a2, a3, a4, a5])) = some y2 at h
    rw [cV] at h
    exact h
  have f3 : DataW.trod enc Tryz.prog w base spare held n 24 [a3] = some y3 := by
    have h := (hf 3 _ rfl).trans e3
    change DataW.trod enc _ w base spare held n 24 (List.take (Tryz.prog.cellsOf 24) (List.drop 3 [a0, a1, a2, a3, a4, a5])) = some y3 at h
    rw [cL] at h
    exact h
  have f4 : DataW.trod enc Tryz.prog w base spare held n 23 [a4] = some y4 := by
    have h := (hf 4 _ rfl).trans e4
    change DataW.trod enc _ w base spare held n 23 (List.take (Tryz.prog.cellsOf 23) (List.drop 4 [a0, a1, a2, a3, a4, a5])) = some y4 at h
    rw [cV] at h
    exact h
  have f5 : DataW.trod enc Tryz.prog w base spare held n 3 [a5] = some y5 := by
    have h := (hf 5 _ rfl).trans e5
    change DataW.trod enc _ w base spare held n 3 (List.take (Tryz.prog.cellsOf 3) (List.drop 5 [a0, a1, a2, a3, a4, a5])) = some y5 at h
    rw [cI] at h
    exact h
  obtain ⟨s0, r0, z0⟩ := dec_string Tryz.underlying9 _ _ _ f0
  obtain ⟨l1, A, k1, c1, r1, _, _, z1⟩ := dec_rows _ _ _ f1
  obtain ⟨l2, B, k2, c2, r2, _, _, z2⟩ := dec_vars _ _ _ f2
  obtain ⟨l3, C, k3, c3, r3, _, _, z3⟩ := dec_strs _ _ _ f3
  obtain ⟨l4, D, k4, c4, r4, _, _, z4⟩ := dec_vars _ _ _ f4
  obtain ⟨n5, r5, z5⟩ := dec_int Tryz.underlying3 _ _ _ f5
  cases r0; cases r1; cases r2; cases r3; cases r4; cases r5
  exact ⟨⟨s0, l1, l2, l3, l4, n5⟩, A, k1, c1, B, k2, c2, C, k3, c3, D, k4, c4, ⟨z0, z1, z2, z3, z4, z5⟩, rfl⟩
end
/-- a world that lays errors of package errors, each in a block of its own -/
noncomputable def errWorld (w0 : World) (tp ts : TypeId) (errs : List (Nat × List UInt8)) : World :=
  { w0 with heap := errs.foldl (fun h e => (h.push (.cells #[.string ⟨e.2.toArray⟩] ts (0, 0))).modify e.1 fun
    | .cells _ ty frozen => .cells #[.iface tp (.pointer (some ⟨h.size, 0, none⟩))] ty frozen
    | o => o) w0.heap }
end Go.Proofs.Sm

namespace Go.Proofs.YtkdogcpgbogkhaaGreatDoor.stand
open Go.ChangeShapes Go.WideShapes Go.ChangeAt Go.RowKit Go.Proofs.Sm

noncomputable def laidWorld (os : Os) : World := errWorld (tableWorld os [(3, Rows.laid_unicode_utf8_first), (4, Rows.laid_unicode_utf8_acceptRanges), (5, Rows.laid_internal_strconv_uint64pow10), (6, Rows.laid_math_bits_deBruijn32tab), (7, Rows.laid_math_bits_deBruijn64tab)])
  322 324 [(2, [118, 97, 108, 117, 101, 32, 111, 117, 116, 32, 111, 102, 32, 114, 97, 110, 103, 101]), (1, [105, 110, 118, 97, 108, 105, 100, 32, 115, 121, 110, 116, 97, 120])]
theorem laid_met (os : Os) (args : Array Value) : laidMet Tryz.prog Rows.actionLooksStandRow.laid ((laidWorld os).forCall (fun _ _ => 0) ⟨#[], args, []⟩).memory :=
  (LaidIn.of_run (l := Rows.actionLooksStandRow.laid) (List.range 30) 8 (by kernel_rfl) (by kernel_rfl) (by kernel_rfl) (by kernel_rfl)).met
theorem reads (os : Os) {H : Type} (enc : TypeId × Value → H) : ∃ ds places, DataW.whole enc Tryz.prog ((laidWorld os).forCall (fun _ _ => 0) ⟨#[], #[.agg #[.string ⟨#[]⟩, .slice none 0 0, .slice none 0 0, .slice none 0 0, .slice none 0 0, .int .i64 0], .slice none 0 0, .slice none 0 0], []⟩).memory Tryz.f5.params.toList Rows.actionLooksStandSpec.vars false #[Value.agg #[.string ⟨#[]⟩, .slice none 0 0, .slice none 0 0, .slice none 0 0, .slice none 0 0, .int .i64 0], Value.slice none 0 0, Value.slice none 0 0].toList 8 = some (ds, [], places) :=
  ⟨[.agg [.lit (.string []), .nil, .nil, .nil, .nil, .lit (.int .i64 0)], .nil, .nil], [], by kernel_rfl⟩

set_option maxRecDepth 100000 in
theorem contract (H : Type) (enc : TypeId × Value → H) (W : World) (base : Nat) (args : Array Value) (ds gs : List (DataW H)) (before : List MemPlace)
    (hval : ∀ (j : Nat) t v, Tryz.f5.params[j]? = some t → args[j]? = some v → Value.okWide Tryz.prog W .any base t v)
    (hW : DataW.Whole enc Tryz.prog Tryz.f5.params.toList Rows.actionLooksStandSpec.vars false W args.toList ds gs before) (hE : Env2 W) :
    Calls Tryz.prog 5 args W fun e W' => ∃ v, e = .returned v ∧ Rows.actionLooksStandSpec.post enc Tryz.prog Tryz.f5 false true false false W args v W' := by
  have hW' := hW
  obtain ⟨p, q, hA0, hV, rfl, hfz, hnd⟩ := hW
  have hA : DataW.TrodAll enc Tryz.prog W 0 (fun _ => true) true Tryz.f5.params.toList args.toList ds p := hA0
  rw [Tryz.params5] at hA hval
  obtain ⟨v0, vs0, d0, ds0, p0, q0, hargs, rfl, rfl, h0, r0⟩ := trodAll_cons hA
  obtain ⟨v1, vs1, d1, ds1, p1, q1, rfl, rfl, rfl, h1, r1⟩ := trodAll_cons r0
  obtain ⟨v2, vs2, d2, ds2, p2, q2, rfl, rfl, rfl, h2, r2⟩ := trodAll_cons r1
  obtain ⟨rfl, rfl, rfl⟩ := trodAll_nil r2
  obtain rfl : args = #[v0, v1, v2] := by cases args; simp_all
  obtain ⟨rfl, rfl⟩ := trodVars_none hV
  have k0 := h0
  have lt0 : ∀ x ∈ p0, x.block < W.heap.size := by obtain ⟨m, hm⟩ := k0; exact DataW.trod_lt m _ _ _ hm
  have k1 := h1
  have lt1 : ∀ x ∈ p1, x.block < W.heap.size := by obtain ⟨m, hm⟩ := k1; exact DataW.trod_lt m _ _ _ hm
  have k2 := h2
  have lt2 : ∀ x ∈ p2, x.block < W.heap.size := by obtain ⟨m, hm⟩ := k2; exact DataW.trod_lt m _ _ _ hm
  obtain ⟨cs0, rfl, hsz0⟩ := okWide_struct Tryz.underlying26 (hval 0 26 v0 rfl rfl)
  obtain ⟨fuel0, hf0⟩ := h0
  obtain ⟨a, A, n, n', B, m, m', C, k, k', D, r, r', hr, hcs⟩ := action_of hf0
  obtain ⟨l⟩ := cs0
  obtain rfl : l = _ := hcs
  clear hsz0
  obtain ⟨A1, n1, c1, l1, rfl, hs1⟩ := arg_slice dec_files (okWide_slice Tryz.underlying27 (hval 1 27 v1 rfl rfl)) h1
  obtain ⟨A2, n2, c2, l2, rfl, hs2⟩ := arg_slice dec_looks (okWide_slice Tryz.underlying28 (hval 2 28 v2 rfl rfl)) h2
  clear hA0
  refine (law_stand a A n n' B m m' C k k' D r r' A1 n1 c1 l1 A2 n2 c2 l2 W hE hr hs1 hs2).mono fun e W' ⟨he, bel⟩ => ?_
  subst he
  exact ⟨_, rfl, _, _, _, [], _, [], hW', trodAll_mk1 (shut_bool Tryz.underlying4 _), (trodAll_cons_mk (Below.trod laidOut (by kernel_rfl) (of_decide_eq_true (by kernel_rfl)) k0 bel lt0) (trodAll_cons_mk (Below.trod laidOut (by kernel_rfl) (of_decide_eq_true (by kernel_rfl)) k1 bel lt1) (trodAll_cons_mk (Below.trod laidOut (by kernel_rfl) (of_decide_eq_true (by kernel_rfl)) k2 bel lt2) trodAll_mk0))), rfl, bel.frame _, fun h => by cases h⟩

set_option maxRecDepth 100000 in
theorem lifted (os : Os) (started : os.Started) (H : Type) (enc : TypeId × Value → H) (F : Stop.Interp) :
    ReturnsInHanded {} Tryz.checked os 5 .any ((OpenSpec.ofChange Rows.actionLooksStandSpec).preRow enc Tryz.prog Tryz.f5 Rows.actionLooksStandRow.domain false Rows.actionLooksStandRow.laid) (((OpenSpec.ofChange Rows.actionLooksStandSpec).at F).post enc Tryz.prog Tryz.f5 false true false false) := by
  obtain ⟨d, places, hx⟩ := reads os enc
  refine returnsInHanded_of_row (C := Tryz.checked) (s := OpenSpec.ofChange Rows.actionLooksStandSpec) own started (by kernel_rfl) Tryz.func5
    (witness_row_atRef (enc := enc) (C := Tryz.checked) false (laidWorld os) #[.agg #[.string ⟨#[]⟩, .slice none 0 0, .slice none 0 0, .slice none 0 0, .slice none 0 0, .int .i64 0], .slice none 0 0, .slice none 0 0] rfl (by kernel_rfl) (by kernel_rfl) (by kernel_rfl)
      (OpenSpec.preRow_of_cond 8 hx (by kernel_rfl) (fun k hk => by cases hk) (by kernel_rfl) (laid_met os _))) ?_
  intro W base args ds gs before hval hW _ _ _ hL hS _
  exact contract H enc W base args ds gs before hval hW (env2_of hL hS (by simp [Rows.actionLooksStandRow, Rows.laid_unicode_utf8_first]) (by simp [Rows.actionLooksStandRow]) (by simp [Rows.actionLooksStandRow]))

theorem said : Rows.ActionLooksStandSaid :=
  OpenClaim.holds_of_cond 5 Tryz.f5 rfl rfl rfl rfl rfl rfl rfl ⟨rfl, rfl, rfl, rfl, rfl⟩ rfl rfl rfl rfl rfl (by kernel_rfl) Tryz.func5 closed
    (of_decide_eq_true (by as_aux_lemma => kernel_rfl)) (by unfold Func.isWrapper; first | (rw [if_pos (by decide +kernel)]; kernel_rfl) | (rw [if_neg (by decide +kernel)]; exact ⟨rfl, rfl⟩))
    (fun os started H enc _ F => by rw [OpenClaim.pre_eq_preRow]; exact lifted os started H enc F)

theorem plain (f : FuncId) (fn : Func) (hf : Tryz.pinned.checked.prog.funcNamed Rows.actionLooksStandRow.func = some f) (hfn : Tryz.pinned.checked.prog.funcs[f]? = some fn) :
    true = Tryz.pinned.checked.prog.looks [] ∧ ∀ (j : Nat) t, fn.params[j]? = some t → Tryz.pinned.checked.prog.wantsStandIn t = false := by
  obtain rfl : f = 5 := Option.some.inj ((show Tryz.prog.funcNamed Rows.actionLooksStandRow.func = some 5 by kernel_rfl).symm.trans hf) |>.symm
  obtain rfl : fn = Tryz.f5 := (Option.some.inj (Tryz.func5.symm.trans hfn)).symm
  refine ⟨by kernel_rfl, fun j t ht => ?_⟩
  rw [Tryz.params5] at ht
  have hm : t = 26 ∨ t = 27 ∨ t = 28 := by simpa using Array.mem_of_getElem? ht
  rcases hm with rfl | rfl | rfl
  · exact (show Tryz.prog.wantsStandIn 26 = false by kernel_rfl)
  · exact (show Tryz.prog.wantsStandIn 27 = false by kernel_rfl)
  · exact (show Tryz.prog.wantsStandIn 28 = false by kernel_rfl)

/-- The card. -/
theorem card : Rows.ActionLooksStandCardSaid :=
  Claim7.holds_tied_plain_at .later [] _ _ _ _ said (fun _ h => by cases h) (by as_aux_lemma => kernel_rfl) (fun _ h => by cases h) actionLooksStand_row_tie rfl ⟨rfl, rfl⟩ (by as_aux_lemma => kernel_rfl) rfl plain (by as_aux_lemma => kernel_rfl)
end Go.Proofs.YtkdogcpgbogkhaaGreatDoor.stand
