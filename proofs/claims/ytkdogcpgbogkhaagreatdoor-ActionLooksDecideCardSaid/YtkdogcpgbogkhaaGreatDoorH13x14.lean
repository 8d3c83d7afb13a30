/- From the form's own readings to ours: actions. -/
import Derived.Test.YtkdogcpgbogkhaaGreatDoorH18x13
import Derived.Test.YtkdogcpgbogkhaaGreatDoorH18x8
import Derived.Test.YtkdogcpgbogkhaaGreatDoorH18x9
import Derived.Test.YtkdogcpgbogkhaaGreatDoorH18x5
import Derived.Test.YtkdogcpgbogkhaaGreatDoorH18x12
import Derived.Deep.RegionHeld3
import Derived.Test.YtkdogcpgbogkhaaGreatDoorH18x7
import Derived.Test.YtkdogcpgbogkhaaGreatDoorCards
import Derived.Test.YtkdogcpgbogkhaaGreatDoorTie
import Derived.OpenShut
import Derived.ShutString
import Derived.ChangeOld
import Derived.Deep.DeepHandedRow
import Derived.Deep.DeepWitnessRowRef
import Derived.Lib.LaidU8
import Derived.Lib.LaidTab
import Derived.Lib.LaidIn
namespace Go.Proofs.Sm
open Go.RowKit

theorem looksErr_by : ∀ {l : List Look} {prev : Option ByteArray}, looksErr prev l = 0 → (∀ q, prev = some q → ∀ y ∈ l, ltS q y.path = true) ∧ ByPath Look.path l
  | [], _, _ => ⟨fun _ _ _ hy => absurd hy (List.not_mem_nil), List.Pairwise.nil⟩
  | x :: l, prev, h => by
    rw [looksErr] at h
    split at h
    · rename_i h0
      obtain ⟨h1, h2⟩ := looksErr_by h
      have hx : ∀ q, prev = some q → ltS q x.path = true := by
        intro q hq
        subst hq
        unfold lookErr at h0
        split at h0
        · omega
        split at h0
        · omega
        split at h0
        · omega
        split at h0
        · omega
        rename_i h9
        exact leS_lt (by simpa [notAfter] using h9)
      refine ⟨fun q hq y hy => ?_, List.pairwise_cons.2 ⟨fun y hy => h1 x.path rfl y hy, h2⟩⟩
      rcases List.mem_cons.1 hy with rfl | hy
      · exact hx q hq
      · exact ltS_trans (hx q hq) (h1 _ rfl y hy)
    · rename_i h0; exact absurd h h0
theorem looks_by {l : List Look} (h : checkLooksS l = 0) : ByPath Look.path l := by
  unfold checkLooksS at h
  split at h
  · omega
  · exact (looksErr_by h).2
theorem looksOf_parts {l : List Look} {F : List FileV} (h : looksOfErr l F = 0) : checkLooksS l = 0 ∧ checkFilesS F = 0 := by
  unfold looksOfErr at h
  split at h
  · rename_i h1; exact absurd h h1
  · rename_i h1; exact ⟨Classical.not_not.1 h1, h⟩
/-- looks that are as they are in the files stand -/
theorem stands_from {l : List Look} {F : List FileV} (hc : checkLooksS l = 0) (hF : checkFilesS F = 0) (h : l.map (fun y => lookAtS F y.path) = l) : looksOfErr l F = 0 ∧ sameLooksS l (looksOfS l F) = true := by
  have e : looksOfErr l F = 0 := by rw [looksOfErr, if_neg (by rw [hc]; simp), hF]
  refine ⟨e, sameLooksS_iff.2 ?_⟩
  rw [looksOfS, if_pos e, looksAtS, h]
theorem stands_of {l : List Look} {F : List FileV} (h : looksOfErr l F = 0) : looksOfErr (looksOfS l F) F = 0 ∧ sameLooksS (looksOfS l F) (looksOfS (looksOfS l F) F) = true := by
  obtain ⟨h1, h2⟩ := looksOf_parts h
  have e : looksOfS l F = l.map fun x => lookAtS F x.path := by rw [looksOfS, if_pos h]; rfl
  have hp : ByPath Look.path (l.map fun x => lookAtS F x.path) := by
    unfold ByPath
    rw [List.pairwise_map]
    refine (looks_by h1).imp fun {x y} hxy => ?_
    rw [lookAt_path, lookAt_path]; exact hxy
  have hall : ∀ y ∈ l.map (fun x => lookAtS F x.path), y = lookAtS F y.path ∧ IsP y.path := by
    intro y hy
    obtain ⟨x, hx, rfl⟩ := List.mem_map.1 hy
    rw [lookAt_path]
    exact ⟨rfl, (looks_all h1 x hx).1⟩
  rw [e]
  refine stands_from ?_ h2 ?_
  · have := checkLooks_len h1
    rw [checkLooksS, List.length_map, if_neg (by omega)]
    exact looksErr_from hp hall fun q hq => by cases hq
  · rw [List.map_map]
    refine List.map_congr_left fun x _ => ?_
    show lookAtS F (lookAtS F x.path).path = lookAtS F x.path
    rw [lookAt_path]
theorem exec_right {a : ActionV} {F : List FileV} (h : bothErr a F = 0) : LooksRight a F ∧ ResultRight a F ∧ checkFilesS F = 0 := by
  obtain ⟨h1, h2, _⟩ := both_ok h
  obtain ⟨h3, h4⟩ := action_parts h1
  exact ⟨looks_right h3 (checkAction_ok h1).commands (files_isP h2) (checkFiles_len h2), result_right h3 (checkAction_ok h1).commands h4 (files_isP h2) (checkFiles_len h2), h2⟩
theorem stands_exec {a : ActionV} {F : List FileV} (h : bothErr a F = 0) : looksOfErr (execS a F).looks F = 0 ∧ sameLooksS (execS a F).looks (looksOfS (execS a F).looks F) = true :=
  stands_from (exec_right h).1.right (exec_right h).2.2 (exec_right h).1.stand
theorem act_box (w : World) (a : ActionV) (A : Option Addr) (n n' : Nat) (B : Option Addr) (m m' : Nat) (C : Option Addr) (p p' : Nat) (D : Option Addr) (q q' : Nat) : Arr (w.alloc (.cells #[.string a.tool, .slice A n n', .slice B m m', .slice C p p', .slice D q q', .int .i64 a.time] 26)) w.heap.size 26 [.string a.tool, .slice A n n', .slice B m m', .slice C p p', .slice D q q', .int .i64 a.time] :=
  heap_alloc_new w _
set_option maxHeartbeats 2000000 in
set_option maxRecDepth 100000 in
theorem law_stand (a : ActionV) (A : Option Addr) (n n' : Nat) (B : Option Addr) (m m' : Nat) (C : Option Addr) (p p' : Nat) (D : Option Addr) (q q' : Nat) (L : Option Addr) (nl cl : Nat) (F : List FileV) (E : Option Addr) (ne ce : Nat) (l : List Look) (w : World) (hE : Env2 w) (ha : ActIs w a A n B m C p D q) (hF : Sl w (Lt w.heap.size) L nl F) (hl : Sl w (Lt w.heap.size) E ne l) :
    Calls Tryz.prog 5 #[actVal a A n n' B m m' C p p' D q q', .slice L nl cl, .slice E ne ce] w fun e w' => e = .returned (.bool true) ∧ Below w.heap.size w w' := by
  have hba := fr_alloc (fr_refl w) (.cells #[.string a.tool, .slice A n n', .slice B m m', .slice C p p', .slice D q q', .int .i64 a.time] 26)
  have HA := Lib.hid (fun wx (hb : Below (w.alloc (.cells #[.string a.tool, .slice A n n', .slice B m m', .slice C p p', .slice D q q', .int .i64 a.time] 26)).heap.size (w.alloc (.cells #[.string a.tool, .slice A n n', .slice B m m', .slice C p p', .slice D q q', .int .i64 a.time] 26)) wx) => (act_box w a A n n' B m m' C p p' D q q').call hb)
  have HL := Lib.hid (act_LooksOf E L ne ce nl cl l F _ (hE.then_ hba).toEnv (sl_call hl hba (Nat.le_refl _)) (sl_call hF hba (Nat.le_refl _)))
  rcases Decidable.em (¬ bothErr a F = 0) with hbad | hok
  · have HX := Lib.hid (fun w1 (hb : Below w.heap.size w w1) => exec_bad a A n n' B m m' C p p' D q q' L nl cl F w1 (hE.then_ hb) (ha.then_ hb) (sl_call hF hb (Nat.le_refl _)) hbad)
    have hb0 : (bothErr a F == 0) = false := by simpa using hbad
    unfold actVal resVal noResult at *
    clear hbad ha hl
    generalize bothErr a F = z at *
    go_enter Tryz.func5, Tryz.ntmps5
    go_wp2_with fail
    refine HL.out.mono ?_
    rintro e w1 ⟨A1, n1, c1, rfl, _, _, s1, b1⟩
    rcases Decidable.em (¬ looksOfErr l F = 0) with hl0 | hl0
    · have hlb : (looksOfErr l F == 0) = false := by simpa using hl0
      generalize looksOfErr l F = z1 at *
      clear s1
      have z0 := (HA.out _ b1).cell (i := 0) rfl
      have z1 := (HA.out _ b1).cell (i := 1) rfl
      have z2 := (HA.out _ b1).cell (i := 2) rfl
      have z3 := (HA.out _ b1).cell (i := 3) rfl
      have z4 := (HA.out _ b1).cell (i := 4) rfl
      have z5 := (HA.out _ b1).cell (i := 5) rfl
      have hzl := (HA.out _ b1).lt
      go_wp2_with fail
      refine (HX.out _ (fr_box (fr_refl w) b1)).mono ?_
      rintro e w8 ⟨rfl, hb8⟩
      have hb9 := fr_alloc (fr_call (fr_box (fr_refl w) b1) hb8) (.cells #[.int .i64 0, .string ⟨#[]⟩, .slice none 0 0, .slice none 0 0, .int .i64 0] 30)
      clear z0 z1 z2 z3 z4 z5
      go_wp2_with fail
      refine (law5_awake _ (hE.then_ hb9).toEnv).mono ?_
      rintro e w9 ⟨rfl, hb10⟩
      go_wp2
      go_ret
      exact ⟨rfl, fr_call hb9 hb10⟩
    · have hl0 : looksOfErr l F = 0 := Decidable.not_not.1 hl0
      have HS := Lib.hid (act_Stands A1 L n1 c1 nl cl (looksOfS l F) F w1 (hE.then_ (fr_box (fr_refl w) b1)).toEnv s1 (sl_call hF (fr_box (fr_refl w) b1) (Nat.le_refl _)))
      rw [(stands_of hl0).1, (stands_of hl0).2] at HS
      rw [hl0]
      clear s1
      go_wp2_with fail
      refine HS.out.mono ?_
      rintro e w2 ⟨rfl, b2⟩
      have b3 := b1.trans (b2.mono b1.size)
      clear b1 b2
      have z0 := (HA.out _ b3).cell (i := 0) rfl
      have z1 := (HA.out _ b3).cell (i := 1) rfl
      have z2 := (HA.out _ b3).cell (i := 2) rfl
      have z3 := (HA.out _ b3).cell (i := 3) rfl
      have z4 := (HA.out _ b3).cell (i := 4) rfl
      have z5 := (HA.out _ b3).cell (i := 5) rfl
      have hzl := (HA.out _ b3).lt
      go_wp2_with fail
      refine (HX.out _ (fr_box (fr_refl w) b3)).mono ?_
      rintro e w8 ⟨rfl, hb8⟩
      have hb9 := fr_alloc (fr_call (fr_box (fr_refl w) b3) hb8) (.cells #[.int .i64 0, .string ⟨#[]⟩, .slice none 0 0, .slice none 0 0, .int .i64 0] 30)
      clear z0 z1 z2 z3 z4 z5
      go_wp2_with fail
      refine (law5_awake _ (hE.then_ hb9).toEnv).mono ?_
      rintro e w9 ⟨rfl, hb10⟩
      go_wp2
      go_ret
      exact ⟨rfl, fr_call hb9 hb10⟩
  · have hok : bothErr a F = 0 := Decidable.not_not.1 hok
    have HX := Lib.hid (fun w1 (hb : Below w.heap.size w w1) => exec_ok a A n n' B m m' C p p' D q q' L nl cl F w1 (hE.then_ hb) (ha.then_ hb) (sl_call hF hb (Nat.le_refl _)) hok)
    have HV := Lib.hid (stands_exec hok)
    unfold ExecPost at HX
    generalize execS a F = R at *
    obtain ⟨code, text, fs, looks, cmd⟩ := R
    unfold actVal resVal at *
    simp only at HX HV
    clear hok ha hl
    go_enter Tryz.func5, Tryz.ntmps5
    go_wp2_with fail
    refine HL.out.mono ?_
    rintro e w1 ⟨A1, n1, c1, rfl, _, _, s1, b1⟩
    rcases Decidable.em (¬ looksOfErr l F = 0) with hl0 | hl0
    · have hlb : (looksOfErr l F == 0) = false := by simpa using hl0
      generalize looksOfErr l F = z1 at *
      clear s1
      have z0 := (HA.out _ b1).cell (i := 0) rfl
      have z1 := (HA.out _ b1).cell (i := 1) rfl
      have z2 := (HA.out _ b1).cell (i := 2) rfl
      have z3 := (HA.out _ b1).cell (i := 3) rfl
      have z4 := (HA.out _ b1).cell (i := 4) rfl
      have z5 := (HA.out _ b1).cell (i := 5) rfl
      have hzl := (HA.out _ b1).lt
      go_wp2_with fail
      refine (HX.out _ (fr_box (fr_refl w) b1)).mono ?_
      rintro e w8 ⟨A1, n1, c1, A2, n2, c2, rfl, hr8, hb8⟩
      have hb9 := fr_alloc (fr_call (fr_box (fr_refl w) b1) hb8) (.cells #[.int .i64 code, .string text, .slice A1 n1 c1, .slice A2 n2 c2, .int .i64 cmd] 30)
      have hl9 := sl_call hr8.looks (fr_alloc (fr_refl w8) (.cells #[.int .i64 code, .string text, .slice A1 n1 c1, .slice A2 n2 c2, .int .i64 cmd] 30)) (Nat.le_refl _)
      have HS := Lib.hid (act_Stands A2 L n2 c2 nl cl looks F _ (hE.then_ hb9).toEnv hl9 (sl_call hF hb9 (Nat.le_refl _)))
      rw [HV.out.1, HV.out.2] at HS
      clear z0 z1 z2 z3 z4 z5 hr8 hl9
      go_wp2_with fail
      refine HS.out.mono ?_
      rintro e w9 ⟨rfl, hb10⟩
      have hb11 := fr_call hb9 hb10
      go_wp2_with fail
      refine (law5_awake _ (hE.then_ hb11).toEnv).mono ?_
      rintro e w10 ⟨rfl, hb12⟩
      go_wp2
      go_ret
      exact ⟨rfl, fr_call hb11 hb12⟩
    · have hl0 : looksOfErr l F = 0 := Decidable.not_not.1 hl0
      have HS := Lib.hid (act_Stands A1 L n1 c1 nl cl (looksOfS l F) F w1 (hE.then_ (fr_box (fr_refl w) b1)).toEnv s1 (sl_call hF (fr_box (fr_refl w) b1) (Nat.le_refl _)))
      rw [(stands_of hl0).1, (stands_of hl0).2] at HS
      rw [hl0]
      clear s1
      go_wp2_with fail
      refine HS.out.mono ?_
      rintro e w2 ⟨rfl, b2⟩
      have b3 := b1.trans (b2.mono b1.size)
      clear b1 b2 HS
      have z0 := (HA.out _ b3).cell (i := 0) rfl
      have z1 := (HA.out _ b3).cell (i := 1) rfl
      have z2 := (HA.out _ b3).cell (i := 2) rfl
      have z3 := (HA.out _ b3).cell (i := 3) rfl
      have z4 := (HA.out _ b3).cell (i := 4) rfl
      have z5 := (HA.out _ b3).cell (i := 5) rfl
      have hzl := (HA.out _ b3).lt
      go_wp2_with fail
      refine (HX.out _ (fr_box (fr_refl w) b3)).mono ?_
      rintro e w8 ⟨A1, n1, c1, A2, n2, c2, rfl, hr8, hb8⟩
      have hb9 := fr_alloc (fr_call (fr_box (fr_refl w) b3) hb8) (.cells #[.int .i64 code, .string text, .slice A1 n1 c1, .slice A2 n2 c2, .int .i64 cmd] 30)
      have hl9 := sl_call hr8.looks (fr_alloc (fr_refl w8) (.cells #[.int .i64 code, .string text, .slice A1 n1 c1, .slice A2 n2 c2, .int .i64 cmd] 30)) (Nat.le_refl _)
      have HS := Lib.hid (act_Stands A2 L n2 c2 nl cl looks F _ (hE.then_ hb9).toEnv hl9 (sl_call hF hb9 (Nat.le_refl _)))
      rw [HV.out.1, HV.out.2] at HS
      clear z0 z1 z2 z3 z4 z5 hr8 hl9
      go_wp2_with fail
      refine HS.out.mono ?_
      rintro e w9 ⟨rfl, hb10⟩
      have hb11 := fr_call hb9 hb10
      go_wp2_with fail
      refine (law5_awake _ (hE.then_ hb11).toEnv).mono ?_
      rintro e w10 ⟨rfl, hb12⟩
      go_wp2
      go_ret
      exact ⟨rfl, fr_call hb11 hb12⟩
end Go.Proofs.Sm

namespace Go.Proofs.Sm
open Go.RowKit

theorem word0_nil (v : List UInt8) (hv : v ≠ []) : ((wordAt [] 0).data.toList == v) = false := by
  cases v with
  | nil => exact absurd rfl hv
  | cons x v => rfl
theorem word0_at {c : List ByteArray} {y : ByteArray} (h : c[0]? = some y) (v : List UInt8) : ((wordAt c 0).data.toList == v) = (y.toList == v) := by
  rw [wordAt, h, ByteArray.toList_eq]; rfl
set_option maxHeartbeats 1000000 in
set_option maxRecDepth 100000 in
theorem law5_lists (a : ActionV) (A : Option Addr) (n n' : Nat) (B : Option Addr) (m m' : Nat) (C : Option Addr) (p p' : Nat) (D : Option Addr) (q q' : Nat) (w : World) (ha : ActIs w a A n B m C p D q) :
    Calls Tryz.prog 16 #[actVal a A n n' B m m' C p p' D q q'] w fun e w' => e = .returned (.bool (a.commands.any isList)) ∧ Below w.heap.size w w' := by
  have hn : n ≤ 9223372036854775807 := ha.commands.2.1
  have hb0 := fr_alloc (fr_refl w) (.cells #[.string a.tool, .slice A n n', .slice B m m', .slice C p p', .slice D q q', .int .i64 a.time] 26)
  have hc1 : (w.alloc (.cells #[.string a.tool, .slice A n n', .slice B m m', .slice C p p', .slice D q q', .int .i64 a.time] 26)).cell? ⟨w.heap.size, 1, none⟩ = some (.slice A n n') := by simp [go_sem]
  have hsl := ha.commands.keep (w' := w.alloc (.cells #[.string a.tool, .slice A n n', .slice B m m', .slice C p p', .slice D q q', .int .i64 a.time] 26)) fun k hk => hb0.block k hk
  have HL := Lib.hid ha.commands.1
  clear ha
  unfold actVal at *
  go_enter Tryz.func16, Tryz.ntmps16
  go_wp2
  go_loop [3] (fun i => ∃ k : Nat, k ≤ n ∧ i = .int .i64 k ∧ (a.commands.take k).any isList = false) (fun i => n - (intOf i).toNat)
  case atStart => exact ⟨0, Nat.zero_le _, rfl, rfl⟩
  case round =>
    obtain ⟨k, hk, rfl, hall⟩ := hrel
    have H := Lib.hid hall; clear hall
    by_cases hlt : k < n
    · obtain ⟨b, o, x, A', n', c', rfl, hb, hx, h1, h2, hs, c0⟩ := hsl.row hlt
      have Hx := Lib.hid hx; clear hx
      have hkI : (k : Int) < (n : Int) := by omega
      rcases Nat.eq_zero_or_pos n' with h0 | h0
      · subst h0
        have hx0 : x = [] := List.eq_nil_of_length_eq_zero hs.1
        have HS := Lib.hid (any_step (p := isList) Hx.out H.out (by rw [hx0]; exact word0_nil _ (by decide)))
        clear hx0 hs
        go_wp2
        go_round
        case rel => exact ⟨k + 1, by omega, by go_num, HS.out⟩
        case measure => simp [intOf]; omega
      · obtain ⟨b2, o2, y, rfl, hb2, hy, hys, d0⟩ := hs.str h0
        have hw := word0_at hy [108, 105, 115, 116]
        have h0I : (0 : Int) < (n' : Int) := by omega
        rw [Nat.add_zero] at d0
        clear hy hs
        cases hq : (y.toList == [108, 105, 115, 116])
        · have HS := Lib.hid (any_step (p := isList) Hx.out H.out (hw.trans hq))
          clear hw
          go_wp2
          go_round
          case rel => exact ⟨k + 1, by omega, by go_num, HS.out⟩
          case measure => simp [intOf]; omega
        · have HS := Lib.hid (show a.commands.any isList = true from List.any_eq_true.2 ⟨x, List.mem_of_getElem? Hx.out, hw.trans hq⟩)
          clear hw
          go_wp2
          go_ret
          exact ⟨ret_bool HS.out.symm, hb0⟩
    · have HS := Lib.hid (any_end (by rw [HL.out]; omega) H.out)
      go_wp2
      go_ret
      exact ⟨ret_bool HS.out.symm, hb0⟩
set_option maxHeartbeats 1000000 in
set_option maxRecDepth 100000 in
theorem law5_expands (a : ActionV) (A : Option Addr) (n n' : Nat) (B : Option Addr) (m m' : Nat) (C : Option Addr) (p p' : Nat) (D : Option Addr) (q q' : Nat) (w : World) (ha : ActIs w a A n B m C p D q) :
    Calls Tryz.prog 20 #[actVal a A n n' B m m' C p p' D q q'] w fun e w' => e = .returned (.bool (a.commands.any isExpand)) ∧ Below w.heap.size w w' := by
  have hn : n ≤ 9223372036854775807 := ha.commands.2.1
  have hb0 := fr_alloc (fr_refl w) (.cells #[.string a.tool, .slice A n n', .slice B m m', .slice C p p', .slice D q q', .int .i64 a.time] 26)
  have hc1 : (w.alloc (.cells #[.string a.tool, .slice A n n', .slice B m m', .slice C p p', .slice D q q', .int .i64 a.time] 26)).cell? ⟨w.heap.size, 1, none⟩ = some (.slice A n n') := by simp [go_sem]
  have hsl := ha.commands.keep (w' := w.alloc (.cells #[.string a.tool, .slice A n n', .slice B m m', .slice C p p', .slice D q q', .int .i64 a.time] 26)) fun k hk => hb0.block k hk
  have HL := Lib.hid ha.commands.1
  clear ha
  unfold actVal at *
  go_enter Tryz.func20, Tryz.ntmps20
  go_wp2
  go_loop [3] (fun i => ∃ k : Nat, k ≤ n ∧ i = .int .i64 k ∧ (a.commands.take k).any isExpand = false) (fun i => n - (intOf i).toNat)
  case atStart => exact ⟨0, Nat.zero_le _, rfl, rfl⟩
  case round =>
    obtain ⟨k, hk, rfl, hall⟩ := hrel
    have H := Lib.hid hall; clear hall
    by_cases hlt : k < n
    · obtain ⟨b, o, x, A', n', c', rfl, hb, hx, h1, h2, hs, c0⟩ := hsl.row hlt
      have Hx := Lib.hid hx; clear hx
      have hkI : (k : Int) < (n : Int) := by omega
      rcases Nat.eq_zero_or_pos n' with h0 | h0
      · subst h0
        have hx0 : x = [] := List.eq_nil_of_length_eq_zero hs.1
        have HS := Lib.hid (any_step (p := isExpand) Hx.out H.out (by rw [hx0]; exact word0_nil _ (by decide)))
        clear hx0 hs
        go_wp2
        go_round
        case rel => exact ⟨k + 1, by omega, by go_num, HS.out⟩
        case measure => simp [intOf]; omega
      · obtain ⟨b2, o2, y, rfl, hb2, hy, hys, d0⟩ := hs.str h0
        have hw := word0_at hy [101, 120, 112, 97, 110, 100]
        have h0I : (0 : Int) < (n' : Int) := by omega
        rw [Nat.add_zero] at d0
        clear hy hs
        cases hq : (y.toList == [101, 120, 112, 97, 110, 100])
        · have HS := Lib.hid (any_step (p := isExpand) Hx.out H.out (hw.trans hq))
          clear hw
          go_wp2
          go_round
          case rel => exact ⟨k + 1, by omega, by go_num, HS.out⟩
          case measure => simp [intOf]; omega
        · have HS := Lib.hid (show a.commands.any isExpand = true from List.any_eq_true.2 ⟨x, List.mem_of_getElem? Hx.out, hw.trans hq⟩)
          clear hw
          go_wp2
          go_ret
          exact ⟨ret_bool HS.out.symm, hb0⟩
    · have HS := Lib.hid (any_end (by rw [HL.out]; omega) H.out)
      go_wp2
      go_ret
      exact ⟨ret_bool HS.out.symm, hb0⟩
/-- is a file at a path -/
theorem law5_at_is (x : FileV) (A : Option Addr) (n c : Nat) (s : ByteArray) (w : World) : Calls Tryz.prog 27 #[.string s, .agg #[.string x.path, .bool x.run, .slice A n c]] w fun e w' => e = .returned (.bool (eqp s x)) ∧ Below w.heap.size w w' := by
  have HE := Lib.hid (show eqp s x = (x.path.toList == s.toList) from rfl)
  go_enter Tryz.func27, Tryz.ntmps27
  go_wp2
  go_ret
  exact ⟨ret_bool HE.out.symm, (by repeat (first | exact fr_refl _ | refine fr_call ?_ (by assumption) | refine fr_alloc ?_ _ | refine fr_set ?_ (by simp) _ | refine Below.drew ?_ | refine below_drewN ?_ _))⟩
theorem find_first {α : Type} {l : List α} {p : α → Bool} {k : Nat} {x : α} (h : (l.take k).any p = false) (hx : l[k]? = some x) (hp : p x = true) : l.find? p = some x := by
  have e : l = l.take k ++ x :: l.drop (k + 1) := by rw [← drop_at hx, List.take_append_drop]
  have h1 : (l.take k).find? p = none := by
    rw [List.find?_eq_none]
    intro y hy
    exact List.any_eq_false.1 h y hy
  rw [e, List.find?_append, List.find?_cons, hp, h1]
  rfl
theorem find_nowhere {α : Type} {l : List α} {p : α → Bool} (h : l.any p = false) : l.find? p = none := by
  rw [List.find?_eq_none]
  intro y hy
  exact List.any_eq_false.1 h y hy
def IdxPost (p : FileV → Bool) (l : List FileV) (w : World) (e : Ending) (w' : World) : Prop :=
  (e = .returned (.int .i64 (-1)) ∧ l.find? p = none ∨ ∃ (k : Nat) (x : FileV), e = .returned (.int .i64 (k : Int)) ∧ l[k]? = some x ∧ l.find? p = some x) ∧ Below w.heap.size w w'
set_option maxHeartbeats 1000000 in
set_option maxRecDepth 100000 in
theorem indexFunc_file (g : Nat) (eg : ∀ args w, (callFunc g args).run Tryz.prog w = .ok (.enter g args) w) (v1 : Value) (p : FileV → Bool) (A : Option Addr) (n c : Nat) (l : List FileV) (w : World) (hsl : Sl w (Lt w.heap.size) A n l)
    (hp : ∀ (W : World) (x : FileV) (A1 : Option Addr) (n1 c1 : Nat), Calls Tryz.prog g #[v1, .agg #[.string x.path, .bool x.run, .slice A1 n1 c1]] W fun e w' => e = .returned (.bool (p x)) ∧ Below W.heap.size W w') :
    Calls Tryz.prog 48 #[.slice A n c, .func (.func g) #[v1] #[]] w (IdxPost p l w) := by
  have hm : n ≤ 9223372036854775807 := hsl.2.1
  have HP := Lib.hid hp; clear hp
  have HL := Lib.hid hsl.1
  go_enter Tryz.func48, Tryz.ntmps48
  go_wp2
  go_loopw [8] (fun i wr => ∃ k : Nat, k ≤ n ∧ i = .int .i64 k ∧ (l.take k).any p = false ∧ Below w.heap.size w wr) (fun i _ => n - (intOf i).toNat)
  case atStart => exact ⟨0, Nat.zero_le _, rfl, rfl, Below.refl _ _⟩
  case round =>
    obtain ⟨k, hk, rfl, hall, hbel⟩ := hrel
    have H := Lib.hid hall; clear hall
    by_cases hlt : k < n
    · have hkI : (k : Int) < (n : Int) := by omega
      obtain ⟨b, o, x, A1, n1, c1, rfl, hb, hx, hxp, h1, h2, hs, c0, c1', c2⟩ := (hsl.keep (keep_lt hbel)).file hlt
      have HX := Lib.hid hx
      have HC := Lib.hid (HP.out wr x A1 n1 c1)
      clear hx hs
      cases hq : p x
      · have HS := Lib.hid (any_step (p := p) HX.out H.out hq)
        go_wp2_with fail
        refine HC.out.mono ?_
        rintro e w1 ⟨rfl, hb1⟩
        rw [hq]
        have hb2 := fr_call hbel hb1
        go_wp2
        go_roundw
        case rel => exact ⟨k + 1, by omega, by go_num, HS.out, hb2⟩
        case measure => simp [intOf]; omega
      · have HQ := Lib.hid hq
        go_wp2_with fail
        refine HC.out.mono ?_
        rintro e w1 ⟨rfl, hb1⟩
        rw [hq]
        go_wp2
        go_ret
        exact ⟨.inr ⟨k, x, rfl, HX.out, find_first H.out HX.out HQ.out⟩, fr_call hbel hb1⟩
    · have HS := Lib.hid (any_end (by rw [HL.out]; omega) H.out)
      go_wp2
      go_ret
      exact ⟨.inl ⟨rfl, find_nowhere HS.out⟩, hbel⟩
set_option maxRecDepth 100000 in
theorem containsFunc_file (g : Nat) (eg : ∀ args w, (callFunc g args).run Tryz.prog w = .ok (.enter g args) w) (v1 : Value) (p : FileV → Bool) (A : Option Addr) (n c : Nat) (l : List FileV) (w : World) (hsl : Sl w (Lt w.heap.size) A n l)
    (hp : ∀ (W : World) (x : FileV) (A1 : Option Addr) (n1 c1 : Nat), Calls Tryz.prog g #[v1, .agg #[.string x.path, .bool x.run, .slice A1 n1 c1]] W fun e w' => e = .returned (.bool (p x)) ∧ Below W.heap.size W w') :
    Calls Tryz.prog 26 #[.slice A n c, .func (.func g) #[v1] #[]] w fun e w' => e = .returned (.bool (l.any p)) ∧ Below w.heap.size w w' := by
  have HC := Lib.hid (indexFunc_file g eg v1 p A n c l w hsl hp)
  clear hp eg
  go_enter Tryz.func26, Tryz.ntmps26
  go_wp2_with fail
  refine HC.out.mono ?_
  rintro e w1 ⟨h | ⟨k, x, rfl, hx, hf⟩, hb1⟩
  · obtain ⟨rfl, hf⟩ := h
    have HF := Lib.hid (show l.any p = false by rw [List.any_eq_false]; exact List.find?_eq_none.1 hf)
    clear hf
    go_wp2
    go_ret
    exact ⟨ret_bool HF.out.symm, hb1⟩
  · have HF := Lib.hid (show l.any p = true from List.any_eq_true.2 ⟨x, List.mem_of_getElem? hx, by have := List.find?_some hf; exact this⟩)
    have hk0 : (0 : Int) ≤ (k : Int) := by omega
    clear hf hx
    go_wp2
    go_ret
    exact ⟨ret_bool HF.out.symm, hb1⟩
end Go.Proofs.Sm

namespace Go.Proofs.Sm
open Go.RowKit

def alikeS (F O : List FileV) (s : ByteArray) : Bool := match F.find? (eqp s), O.find? (eqp s) with
  | none, none => true
  | some x, some y => x.run == y.run && decide (x.bytes = y.bytes)
  | _, _ => false
section
variable {F O : List FileV} {s : ByteArray} {x y : FileV}
theorem alike_none (h : F.find? (eqp s) = none) (k : O.find? (eqp s) = none) : alikeS F O s = true := by rw [alikeS, h, k]
theorem alike_left (h : F.find? (eqp s) = some x) (k : O.find? (eqp s) = none) : alikeS F O s = false := by rw [alikeS, h, k]
theorem alike_right (h : F.find? (eqp s) = none) (k : O.find? (eqp s) = some y) : alikeS F O s = false := by rw [alikeS, h, k]
theorem alike_both (h : F.find? (eqp s) = some x) (k : O.find? (eqp s) = some y) : alikeS F O s = (x.run == y.run && decide (x.bytes = y.bytes)) := by rw [alikeS, h, k]
theorem alike_same (h : alikeS F O s = true) : F.find? (eqp s) = O.find? (eqp s) := by
  cases hF : F.find? (eqp s) with
  | none =>
    cases hO : O.find? (eqp s) with
    | none => rfl
    | some y => rw [alike_right hF hO] at h; cases h
  | some x =>
    cases hO : O.find? (eqp s) with
    | none => rw [alike_left hF hO] at h; cases h
    | some y =>
      rw [alike_both hF hO, Bool.and_eq_true, beq_iff_eq, decide_eq_true_eq] at h
      have h1 : eqp s x = true := List.find?_some hF
      have h2 : eqp s y = true := List.find?_some hO
      rw [eqp] at h1 h2
      have h3 : x.path = y.path := bytes_eq (by rw [← Lib.toList_data, ← Lib.toList_data, beq_iff_eq.1 h1, beq_iff_eq.1 h2])
      cases x; cases y
      simp_all
end
set_option maxHeartbeats 1000000 in
set_option maxRecDepth 100000 in
theorem law5_alike (A : Option Addr) (n c : Nat) (F : List FileV) (B : Option Addr) (m d : Nat) (O : List FileV) (s : ByteArray) (w : World) (hF : Sl w (Lt w.heap.size) A n F) (hO : Sl w (Lt w.heap.size) B m O) :
    Calls Tryz.prog 17 #[.slice A n c, .slice B m d, .string s] w fun e w' => e = .returned (.bool (alikeS F O s)) ∧ Below w.heap.size w w' := by
  have H1 := Lib.hid (indexFunc_file 27 (enters_of Tryz.func27 (by kernel_rfl) rfl) (.string s) (eqp s) A n c F w hF fun W x A1 n1 c1 => law5_at_is x A1 n1 c1 s W)
  have H2 := Lib.hid (fun w1 (hb : Below w.heap.size w w1) => indexFunc_file 27 (enters_of Tryz.func27 (by kernel_rfl) rfl) (.string s) (eqp s) B m d O w1 (sl_call hO hb (Nat.le_refl _)) fun W x A1 n1 c1 => law5_at_is x A1 n1 c1 s W)
  go_enter Tryz.func17, Tryz.ntmps17
  go_wp2_with fail
  refine H1.out.mono ?_
  rintro e w1 ⟨h1, b1⟩
  have H3 := Lib.hid (H2.out w1 b1)
  rcases h1 with ⟨rfl, hf⟩ | ⟨i, x, rfl, hx, hf⟩
  · go_wp2_with fail
    refine H3.out.mono ?_
    rintro e w2 ⟨h2, b2⟩
    have b12 := fr_call b1 b2
    rcases h2 with ⟨rfl, hk⟩ | ⟨k, y, rfl, hy, hk⟩
    · have HE := Lib.hid (alike_none hf hk)
      clear hf hk
      go_wp2
      go_ret
      exact ⟨ret_bool HE.out.symm, b12⟩
    · have HE := Lib.hid (alike_right hf hk)
      have hk0 : ¬ (k : Int) < 0 := by omega
      clear hf hk hy
      go_wp2
      go_ret
      exact ⟨ret_bool HE.out.symm, b12⟩
  · have hi0 : ¬ (i : Int) < 0 := by omega
    have HX := Lib.hid hx
    have HF := Lib.hid hf
    clear hx hf
    go_wp2_with fail
    refine H3.out.mono ?_
    rintro e w2 ⟨h2, b2⟩
    have b12 := fr_call b1 b2
    rcases h2 with ⟨rfl, hk⟩ | ⟨k, y, rfl, hy, hk⟩
    · have HE := Lib.hid (alike_left HF.out hk)
      clear hk
      go_wp2
      go_ret
      exact ⟨ret_bool HE.out.symm, b12⟩
    · have HE := Lib.hid (alike_both HF.out hk)
      have hk0 : ¬ (k : Int) < 0 := by omega
      have hin : i < n := by rw [← hF.1]; exact (List.getElem?_eq_some_iff.1 HX.out).1
      have hkn : k < m := by rw [← hO.1]; exact (List.getElem?_eq_some_iff.1 hy).1
      obtain ⟨g1, o1, x1, A1, n1, c1, rfl, hb1, hx1, _, _, _, s1, p0, p1, p2⟩ := (sl_call hF b12 (Nat.le_refl _)).file hin
      obtain ⟨g2, o2, y1, A2, n2, c2, rfl, hb2, hy1, _, _, _, s2, q0, q1, q2⟩ := (sl_call hO b12 (Nat.le_refl _)).file hkn
      obtain rfl : x1 = x := by rw [HX.out] at hx1; exact (Option.some.inj hx1).symm
      obtain rfl : y1 = y := by rw [hy] at hy1; exact (Option.some.inj hy1).symm
      have hiI : (i : Int) < (n : Int) := by omega
      have hkI : (k : Int) < (m : Int) := by omega
      have hg1 : g1 < w2.heap.size := hb1
      have hg2 : g2 < w2.heap.size := hb2
      have HB := Lib.hid b12
      have HC := Lib.hid (fun w' (hw : Below w2.heap.size w2 w') => bytes_Equal2 A1 A2 n1 n2 c1 c2 x1.bytes y1.bytes w' (Lt w2.heap.size) (Lt w2.heap.size) (s1.keep (keep_lt hw)) (s2.keep (keep_lt hw)))
      have HK := Lib.hid (show ∀ w', Below w2.heap.size w2 w' → (Below w2.heap.size w2 w' ∧ w'.cell? ⟨g1, o1 + i * 3 + 1, none⟩ = some (.bool x1.run) ∧ w'.cell? ⟨g1, o1 + i * 3 + 2, none⟩ = some (.slice A1 n1 c1) ∧
          w'.cell? ⟨g2, o2 + k * 3 + 1, none⟩ = some (.bool y1.run) ∧ w'.cell? ⟨g2, o2 + k * 3 + 2, none⟩ = some (.slice A2 n2 c2)) from fun w' hw => by
        have e1 : ∀ o, w'.cell? ⟨g1, o, none⟩ = _ := fun o => hw.cell (p := ⟨g1, o, none⟩) hg1
        have e2 : ∀ o, w'.cell? ⟨g2, o, none⟩ = _ := fun o => hw.cell (p := ⟨g2, o, none⟩) hg2
        exact ⟨hw, (e1 _).trans p1, (e1 _).trans p2, (e2 _).trans q1, (e2 _).trans q2⟩)
      clear hx1 hy1 hy hk p0 p1 p2 q0 q1 q2 s1 s2 b1 b2 b12
      have HR := Lib.hid (fun (r1 r2 : Bool) (h1 : x1.run = r1) (h2 : y1.run = r2) => show alikeS F O s = (r1 == r2 && decide (x1.bytes = y1.bytes)) by rw [HE.out, h1, h2])
      clear HE
      generalize x1.run = r1 at *
      generalize y1.run = r2 at *
      have HE := Lib.hid (HR.out r1 r2 rfl rfl)
      clear HR
      obtain ⟨_, p1, p2, q1, q2⟩ := HK.out _ (Below.refl _ _)
      cases r1 <;> cases r2
      · have HV := Lib.hid (show alikeS F O s = decide (x1.bytes = y1.bytes) by rw [HE.out]; rfl)
        clear HE
        generalize decide (x1.bytes = y1.bytes) = z at *
        go_wp2
        go_region_held3 (fun w' => Below w2.heap.size w2 w' ∧ w'.cell? ⟨g1, o1 + i * 3 + 1, none⟩ = some (.bool false) ∧ w'.cell? ⟨g1, o1 + i * 3 + 2, none⟩ = some (.slice A1 n1 c1) ∧
          w'.cell? ⟨g2, o2 + k * 3 + 1, none⟩ = some (.bool false) ∧ w'.cell? ⟨g2, o2 + k * 3 + 2, none⟩ = some (.slice A2 n2 c2))
          (first | assumption | exact HK.out _ (fr_refl _).drew)
          (first | (go_at_call 49; refine (HC.out _ (And.left (by assumption))).mono ?_; rintro e wc ⟨rfl, rfl⟩))
        go_wp2
        go_ret
        exact ⟨ret_bool HV.out.symm, fr_call HB.out (And.left (by assumption))⟩
      · have HV := Lib.hid (show alikeS F O s = false by rw [HE.out]; rfl)
        clear HE HC
        go_wp2
        go_quiet (fail)
        go_wp2
        go_ret
        exact ⟨ret_bool HV.out.symm, fr_call HB.out (by repeat (first | exact fr_refl _ | refine fr_call ?_ (by assumption) | refine fr_alloc ?_ _ | refine fr_set ?_ (by simp) _ | refine Below.drew ?_ | refine below_drewN ?_ _))⟩
      · have HV := Lib.hid (show alikeS F O s = false by rw [HE.out]; rfl)
        clear HE HC
        go_wp2
        go_quiet (fail)
        go_wp2
        go_ret
        exact ⟨ret_bool HV.out.symm, fr_call HB.out (by repeat (first | exact fr_refl _ | refine fr_call ?_ (by assumption) | refine fr_alloc ?_ _ | refine fr_set ?_ (by simp) _ | refine Below.drew ?_ | refine below_drewN ?_ _))⟩
      · have HV := Lib.hid (show alikeS F O s = decide (x1.bytes = y1.bytes) by rw [HE.out]; rfl)
        clear HE
        generalize decide (x1.bytes = y1.bytes) = z at *
        go_wp2
        go_region_held3 (fun w' => Below w2.heap.size w2 w' ∧ w'.cell? ⟨g1, o1 + i * 3 + 1, none⟩ = some (.bool true) ∧ w'.cell? ⟨g1, o1 + i * 3 + 2, none⟩ = some (.slice A1 n1 c1) ∧
          w'.cell? ⟨g2, o2 + k * 3 + 1, none⟩ = some (.bool true) ∧ w'.cell? ⟨g2, o2 + k * 3 + 2, none⟩ = some (.slice A2 n2 c2))
          (first | assumption | exact HK.out _ (fr_refl _).drew)
          (first | (go_at_call 49; refine (HC.out _ (And.left (by assumption))).mono ?_; rintro e wc ⟨rfl, rfl⟩))
        go_wp2
        go_ret
        exact ⟨ret_bool HV.out.symm, fr_call HB.out (And.left (by assumption))⟩
end Go.Proofs.Sm

namespace Go.Proofs.Sm
open Go.RowKit

theorem bytes_Equal (A A' : Option Addr) (n n' c c' : Nat) (l : List UInt8) (w : World) (S : Nat → Prop) (h : Sl w S A n l) (h' : Sl w S A' n' l) :
    Calls Tryz.prog 49 #[.slice A n c, .slice A' n' c'] w fun e w' => e = .returned (.bool true) ∧ w = w' := by
  have r1 := run_bytes_string (P := Tryz.prog) h 48 9 5 c Tryz.underlying48 Tryz.underlying5 Tryz.underlying9
  have r2 := run_bytes_string (P := Tryz.prog) h' 48 9 5 c' Tryz.underlying48 Tryz.underlying5 Tryz.underlying9
  generalize (⟨l.toArray⟩ : ByteArray) = s at r1 r2
  go_enter Tryz.func49, Tryz.ntmps49
  go_wp2
  go_ret
  exact ⟨rfl, rfl⟩
set_option maxRecDepth 100000 in
theorem ref1_SameFile (x : FileV) (A A' : Option Addr) (n n' c c' : Nat) (w : World) (h : Sl w (Lt w.heap.size) A n x.bytes) (h' : Sl w (Lt w.heap.size) A' n' x.bytes) :
    Calls Tryz.prog 63 #[.agg #[.string x.path, .bool x.run, .slice A n c], .agg #[.string x.path, .bool x.run, .slice A' n' c']] w fun e w' => e = .returned (.bool true) ∧ Below w.heap.size w w' := by
  go_enter Tryz.func63, Tryz.ntmps63
  go_wp2_with fail
  have hb := fr_alloc (fr_alloc (fr_refl w) (.cells #[.string x.path, .bool x.run, .slice A n c] 50)) (.cells #[.string x.path, .bool x.run, .slice A' n' c'] 50)
  refine (bytes_Equal A A' n n' c c' x.bytes _ (Lt w.heap.size) (h.keep (keep_lt hb)) (h'.keep (keep_lt hb))).mono ?_
  rintro e w1 ⟨rfl, rfl⟩
  go_wp2
  go_ret
  exact ⟨rfl, hb⟩
set_option maxRecDepth 100000 in
theorem ref1_SameFiles (A A' : Option Addr) (n c c' : Nat) (l : List FileV) (w : World) (h : Sl w (Lt w.heap.size) A n l) (h' : Sl w (Lt w.heap.size) A' n l) :
    Calls Tryz.prog 35 #[.slice A n c, .slice A' n c'] w fun e w' => e = .returned (.bool true) ∧ Below w.heap.size w w' := by
  have hm : n ≤ 9223372036854775807 := h.2.1
  go_enter Tryz.func35, Tryz.ntmps35
  go_wp2
  go_loopw [5] (fun i wr => ∃ k : Nat, k ≤ n ∧ i = .int .i64 k ∧ Below w.heap.size w wr) (fun i _ => n - (intOf i).toNat)
  case atStart => exact ⟨0, Nat.zero_le _, rfl, fr_refl w⟩
  case round =>
    obtain ⟨k, hk, rfl, hbel⟩ := hrel
    by_cases hlt : k < n
    · obtain ⟨g1, o1, x1, A1, n1, c1, rfl, hb1, hx1, hp1, _, _, s1, p0, p1, p2⟩ := (h.keep (keep_lt hbel)).file hlt
      obtain ⟨g2, o2, x2, A2, n2, c2, rfl, hb2, hx2, hp2, _, _, s2, q0, q1, q2⟩ := (h'.keep (keep_lt hbel)).file hlt
      obtain rfl : x1 = x2 := by rw [hx1] at hx2; exact Option.some.inj hx2
      have hkI : (k : Int) < (n : Int) := by omega
      have hg1 : g1 < w.heap.size := hb1
      have hg2 : g2 < w.heap.size := hb2
      have HK := Lib.hid (show ∀ w', Below w.heap.size w w' → (Below w.heap.size w w' ∧ w'.cell? ⟨g1, o1 + k * 3, none⟩ = some (.string x1.path) ∧ w'.cell? ⟨g1, o1 + k * 3 + 1, none⟩ = some (.bool x1.run) ∧ w'.cell? ⟨g1, o1 + k * 3 + 2, none⟩ = some (.slice A1 n1 c1) ∧
          w'.cell? ⟨g2, o2 + k * 3, none⟩ = some (.string x1.path) ∧ w'.cell? ⟨g2, o2 + k * 3 + 1, none⟩ = some (.bool x1.run) ∧ w'.cell? ⟨g2, o2 + k * 3 + 2, none⟩ = some (.slice A2 n2 c2)) from fun w' hw => by
        have e1 : ∀ o, w'.cell? ⟨g1, o, none⟩ = _ := fun o => (hw.cell (p := ⟨g1, o, none⟩) hg1).trans (hbel.cell (p := ⟨g1, o, none⟩) hg1).symm
        have e2 : ∀ o, w'.cell? ⟨g2, o, none⟩ = _ := fun o => (hw.cell (p := ⟨g2, o, none⟩) hg2).trans (hbel.cell (p := ⟨g2, o, none⟩) hg2).symm
        exact ⟨hw, (e1 _).trans p0, (e1 _).trans p1, (e1 _).trans p2, (e2 _).trans q0, (e2 _).trans q1, (e2 _).trans q2⟩)
      have hs1 : ∀ w', Below w.heap.size w w' → Sl w' (Lt w'.heap.size) A1 n1 x1.bytes := fun w' hw => ((s1.keep (fun q hq => (hw.block q hq).trans (hbel.block q hq).symm)).more (lt_mono hw.size))
      have hs2 : ∀ w', Below w.heap.size w w' → Sl w' (Lt w'.heap.size) A2 n2 x1.bytes := fun w' hw => ((s2.keep (fun q hq => (hw.block q hq).trans (hbel.block q hq).symm)).more (lt_mono hw.size))
      have HC := Lib.hid (fun w' (hw : Below w.heap.size w w') => ref1_SameFile x1 A1 A2 n1 n2 c1 c2 w' (hs1 w' hw) (hs2 w' hw))
      clear hs1 hs2 hx1 hx2 p0 p1 p2 q0 q1 q2 s1 s2
      obtain ⟨_, p0, p1, p2, q0, q1, q2⟩ := HK.out _ hbel
      go_wp2
      go_region_held3 (fun w' => Below w.heap.size w w' ∧ w'.cell? ⟨g1, o1 + k * 3, none⟩ = some (.string x1.path) ∧ w'.cell? ⟨g1, o1 + k * 3 + 1, none⟩ = some (.bool x1.run) ∧ w'.cell? ⟨g1, o1 + k * 3 + 2, none⟩ = some (.slice A1 n1 c1) ∧
          w'.cell? ⟨g2, o2 + k * 3, none⟩ = some (.string x1.path) ∧ w'.cell? ⟨g2, o2 + k * 3 + 1, none⟩ = some (.bool x1.run) ∧ w'.cell? ⟨g2, o2 + k * 3 + 2, none⟩ = some (.slice A2 n2 c2))
        (first | assumption | exact HK.out _ hbel.drew | exact HK.out _ (fr_call (And.left (by assumption)) hbc))
        (first | (go_at_call 63; refine (HC.out _ (And.left (by assumption))).mono ?_; rintro e wc ⟨rfl, hbc⟩))
      have hb9 : Below w.heap.size w wc := And.left (by assumption)
      go_wp2
      go_roundw
      case rel => exact ⟨k + 1, by omega, by go_num, hb9⟩
      case measure => simp [intOf]; omega
    · go_wp2
      go_ret
      exact ⟨rfl, hbel⟩
set_option maxHeartbeats 1000000 in
set_option maxRecDepth 100000 in
theorem ref5_SameResult (r : ResultV) (A A' : Option Addr) (n n' c c' : Nat) (B B' : Option Addr) (m m' d d' : Nat) (w : World) (h : ResIs w r A n B m) (h' : ResIs w r A' n' B' m') :
    Calls Tryz.prog 18 #[resVal r A n c B m d, resVal r A' n' c' B' m' d'] w fun e w' => e = .returned (.bool true) ∧ Below w.heap.size w w' := by
  have hn : n' = n := by rw [← h'.files.1, ← h.files.1]
  subst hn
  have hs := sameLooksS_iff.2 (rfl : r.looks = r.looks)
  have HF := Lib.hid (fun w' (hb : Below w.heap.size w w') => ref1_SameFiles A A' n' c c' r.files w' (h.then_ hb).files (h'.then_ hb).files)
  have HL := Lib.hid (fun w' (hb : Below w.heap.size w w') => ref5_SameLooks B B' m m' d d' r.looks r.looks w' (h.then_ hb).looks (h'.then_ hb).looks)
  rw [hs] at HL
  unfold resVal
  have hb0 := fr_alloc (fr_alloc (fr_refl w) (.cells #[.int .i64 r.code, .string r.text, .slice A n' c, .slice B m d, .int .i64 r.command] 30)) (.cells #[.int .i64 r.code, .string r.text, .slice A' n' c', .slice B' m' d', .int .i64 r.command] 30)
  go_enter Tryz.func18, Tryz.ntmps18
  go_wp2_with fail
  refine (HF.out _ hb0).mono ?_
  rintro e w1 ⟨rfl, hb1⟩
  obtain ⟨hc1, hf1⟩ := bcell hb1
  have hz1 := hb1.size
  have hb2 := fr_call hb0 hb1
  have hsz : w.heap.size + 2 ≤ w1.heap.size := by simpa using hz1
  have e1 : w1.heap[w.heap.size]? = some (.cells #[.int .i64 r.code, .string r.text, .slice A n' c, .slice B m d, .int .i64 r.command] 30 (0, 0)) :=
    (hb1.block _ (by simp; omega)).trans (((fr_alloc (fr_refl (w.alloc _)) _).block w.heap.size (by simp)).trans (heap_alloc_new w _))
  have e2 : w1.heap[w.heap.size + 1]? = some (.cells #[.int .i64 r.code, .string r.text, .slice A' n' c', .slice B' m' d', .int .i64 r.command] 30 (0, 0)) := by
    have := heap_alloc_new (w.alloc (.cells #[.int .i64 r.code, .string r.text, .slice A n' c, .slice B m d, .int .i64 r.command] 30)) (.cells #[.int .i64 r.code, .string r.text, .slice A' n' c', .slice B' m' d', .int .i64 r.command] 30 (0, 0))
    rw [World.size_alloc] at this
    exact (hb1.block _ (by simp)).trans this
  have k3 : w1.cell? ⟨w.heap.size, 3, none⟩ = some (.slice B m d) := by rw [Lib.cell_of_heap e1]; rfl
  have k4 : w1.cell? ⟨w.heap.size, 4, none⟩ = some (.int .i64 r.command) := by rw [Lib.cell_of_heap e1]; rfl
  have j3 : w1.cell? ⟨w.heap.size + 1, 3, none⟩ = some (.slice B' m' d') := by rw [Lib.cell_of_heap e2]; rfl
  have j4 : w1.cell? ⟨w.heap.size + 1, 4, none⟩ = some (.int .i64 r.command) := by rw [Lib.cell_of_heap e2]; rfl
  clear e1 e2 hc1 hf1
  go_wp2_with fail
  refine (HL.out _ hb2).mono ?_
  rintro e w2 ⟨rfl, hb3⟩
  have k4' := (hb3.cell (p := ⟨w.heap.size, 4, none⟩) (show w.heap.size < _ by omega)).trans k4
  have j4' := (hb3.cell (p := ⟨w.heap.size + 1, 4, none⟩) (show w.heap.size + 1 < _ by omega)).trans j4
  go_wp2
  go_ret
  exact ⟨rfl, fr_call hb2 hb3⟩
end Go.Proofs.Sm

namespace Go.Proofs.Sm
open Go.RowKit

/-- the row of looks, of which no one was found to be otherwise -/
theorem agree_of {F O : List FileV} {l : List Look} (h : l.all (fun y => alikeS F O y.path) = true) : AgreeOn F O l := fun y hy => alike_same (List.all_eq_true.1 h y hy)
theorem all_more {α : Type} {l : List α} {p : α → Bool} {k : Nat} {x : α} (h : (l.take k).all p = true) (hx : l[k]? = some x) (hp : p x = true) : (l.take (k + 1)).all p = true := by
  rw [List.take_add_one, hx, List.all_append, h]
  simp [hp]
set_option maxHeartbeats 2000000 in
set_option maxRecDepth 100000 in
theorem law_decide (a : ActionV) (A : Option Addr) (n n' : Nat) (B : Option Addr) (m m' : Nat) (C : Option Addr) (p p' : Nat) (D : Option Addr) (q q' : Nat) (L : Option Addr) (nl cl : Nat) (F : List FileV) (E : Option Addr) (ne ce : Nat) (O : List FileV) (w : World) (hE : Env2 w) (ha : ActIs w a A n B m C p D q) (hF : Sl w (Lt w.heap.size) L nl F) (hO : Sl w (Lt w.heap.size) E ne O) :
    Calls Tryz.prog 3 #[actVal a A n n' B m m' C p p' D q q', .slice L nl cl, .slice E ne ce] w fun e w' => e = .returned (.bool true) ∧ Below w.heap.size w w' := by
  have hba := fr_alloc (fr_refl w) (.cells #[.string a.tool, .slice A n n', .slice B m m', .slice C p p', .slice D q q', .int .i64 a.time] 26)
  have HA := Lib.hid (fun wx (hb : Below (w.alloc (.cells #[.string a.tool, .slice A n n', .slice B m m', .slice C p p', .slice D q q', .int .i64 a.time] 26)).heap.size (w.alloc (.cells #[.string a.tool, .slice A n n', .slice B m m', .slice C p p', .slice D q q', .int .i64 a.time] 26)) wx) => (act_box w a A n n' B m m' C p p' D q q').call hb)
  rcases Decidable.em (¬ bothErr a F = 0) with hbad | hok
  · have HX := Lib.hid (exec_bad a A n n' B m m' C p p' D q q' L nl cl F _ (hE.then_ hba) (ha.then_ hba) (sl_call hF hba (Nat.le_refl _)) hbad)
    have hb0 : (bothErr a F == 0) = false := by simpa using hbad
    unfold actVal resVal noResult at *
    clear hbad ha hF
    generalize bothErr a F = z at *
    go_enter Tryz.func3, Tryz.ntmps3
    go_wp2_with fail
    refine HX.out.mono ?_
    rintro e w8 ⟨rfl, hb8⟩
    have hb9 := fr_alloc (fr_box (fr_refl w) hb8) (.cells #[.int .i64 0, .string ⟨#[]⟩, .slice none 0 0, .slice none 0 0, .int .i64 0] 30)
    go_wp2_with fail
    refine (law5_awake _ (hE.then_ hb9).toEnv).mono ?_
    rintro e wz ⟨rfl, hbz⟩
    go_wp2
    go_ret
    exact ⟨rfl, fr_call hb9 hbz⟩
  have hok : bothErr a F = 0 := Decidable.not_not.1 hok
  have HX := Lib.hid (exec_ok a A n n' B m m' C p p' D q q' L nl cl F _ (hE.then_ hba) (ha.then_ hba) (sl_call hF hba (Nat.le_refl _)) hok)
  unfold ExecPost at HX
  rcases Decidable.em (¬ bothErr a O = 0) with hbad | hok2
  · have HY := Lib.hid (fun w1 (hb : Below w.heap.size w w1) => exec_bad a A n n' B m m' C p p' D q q' E ne ce O w1 (hE.then_ hb) (ha.then_ hb) (sl_call hO hb (Nat.le_refl _)) hbad)
    have hb0 : (bothErr a O == 0) = false := by simpa using hbad
    have hb1 : (bothErr a O != 0) = true := by simpa using hbad
    generalize execS a F = R at *
    obtain ⟨code, text, fs, looks, cmd⟩ := R
    unfold actVal resVal noResult at *
    simp only at HX
    clear hbad ha hF hO hok
    generalize bothErr a O = z at *
    go_enter Tryz.func3, Tryz.ntmps3
    go_wp2_with fail
    refine HX.out.mono ?_
    rintro e w8 ⟨A1, n1, c1, A2, n2, c2, rfl, hr8, hb8⟩
    have hb9 := fr_alloc (fr_box (fr_refl w) hb8) (.cells #[.int .i64 code, .string text, .slice A1 n1 c1, .slice A2 n2 c2, .int .i64 cmd] 30)
    have hb9b := fr_alloc hb8 (.cells #[.int .i64 code, .string text, .slice A1 n1 c1, .slice A2 n2 c2, .int .i64 cmd] 30)
    clear hr8 HX
    have z0 := (HA.out _ hb9b).cell (i := 0) rfl
    have z1 := (HA.out _ hb9b).cell (i := 1) rfl
    have z2 := (HA.out _ hb9b).cell (i := 2) rfl
    have z3 := (HA.out _ hb9b).cell (i := 3) rfl
    have z4 := (HA.out _ hb9b).cell (i := 4) rfl
    have z5 := (HA.out _ hb9b).cell (i := 5) rfl
    have hzl := (HA.out _ hb9b).lt
    go_wp2_with fail
    refine (HY.out _ hb9).mono ?_
    rintro e w9 ⟨rfl, hb10⟩
    have hb11 := fr_alloc (fr_call hb9 hb10) (.cells #[.int .i64 0, .string ⟨#[]⟩, .slice none 0 0, .slice none 0 0, .int .i64 0] 30)
    clear z0 z1 z2 z3 z4 z5 hzl
    go_wp2_with fail
    refine (law5_awake _ (hE.then_ hb11).toEnv).mono ?_
    rintro e wz ⟨rfl, hbz⟩
    go_wp2
    go_ret
    exact ⟨rfl, fr_call hb11 hbz⟩
  have hok2 : bothErr a O = 0 := Decidable.not_not.1 hok2
  have HY := Lib.hid (fun w1 (hb : Below w.heap.size w w1) => exec_ok a A n n' B m m' C p p' D q q' E ne ce O w1 (hE.then_ hb) (ha.then_ hb) (sl_call hO hb (Nat.le_refl _)) hok2)
  unfold ExecPost at HY
  have HL := Lib.hid (fun w1 (hb : Below w.heap.size w w1) => law5_lists a A n n' B m m' C p p' D q q' w1 (ha.then_ hb))
  have HD := Lib.hid (fun (h : a.commands.any isList = false) hag => looks_decide (F := F) (F' := O) h hag)
  generalize execS a F = R at *
  generalize execS a O = R2 at *
  obtain ⟨code, text, fs, looks, cmd⟩ := R
  obtain ⟨code2, text2, fs2, looks2, cmd2⟩ := R2
  unfold actVal resVal at *
  simp only at HX HY HD
  clear ha hok hok2
  go_enter Tryz.func3, Tryz.ntmps3
  go_wp2_with fail
  refine HX.out.mono ?_
  rintro e w8 ⟨A1, n1, c1, A2, n2, c2, rfl, hr8, hb8⟩
  have hb9 := fr_alloc (fr_box (fr_refl w) hb8) (.cells #[.int .i64 code, .string text, .slice A1 n1 c1, .slice A2 n2 c2, .int .i64 cmd] 30)
  have hb9b := fr_alloc hb8 (.cells #[.int .i64 code, .string text, .slice A1 n1 c1, .slice A2 n2 c2, .int .i64 cmd] 30)
  have hx9 := heap_alloc_new w8 (.cells #[.int .i64 code, .string text, .slice A1 n1 c1, .slice A2 n2 c2, .int .i64 cmd] 30)
  have hr9 := hr8.then_ (fr_alloc (fr_refl w8) (.cells #[.int .i64 code, .string text, .slice A1 n1 c1, .slice A2 n2 c2, .int .i64 cmd] 30))
  have hz9 : (w8.alloc (.cells #[.int .i64 code, .string text, .slice A1 n1 c1, .slice A2 n2 c2, .int .i64 cmd] 30)).heap.size = w8.heap.size + 1 := World.size_alloc ..
  clear hr8 HX
  have z0 := (HA.out _ hb9b).cell (i := 0) rfl
  have z1 := (HA.out _ hb9b).cell (i := 1) rfl
  have z2 := (HA.out _ hb9b).cell (i := 2) rfl
  have z3 := (HA.out _ hb9b).cell (i := 3) rfl
  have z4 := (HA.out _ hb9b).cell (i := 4) rfl
  have z5 := (HA.out _ hb9b).cell (i := 5) rfl
  have hzl := (HA.out _ hb9b).lt
  go_wp2_with fail
  refine (HY.out _ hb9).mono ?_
  rintro e w9 ⟨A3, n3, c3, A4, n4, c4, rfl, hr10, hb10⟩
  have hb11 := fr_alloc (fr_call hb9 hb10) (.cells #[.int .i64 code2, .string text2, .slice A3 n3 c3, .slice A4 n4 c4, .int .i64 cmd2] 30)
  have hbY := fr_alloc hb10 (.cells #[.int .i64 code2, .string text2, .slice A3 n3 c3, .slice A4 n4 c4, .int .i64 cmd2] 30)
  have hb11b := fr_alloc (fr_call hb9b hb10) (.cells #[.int .i64 code2, .string text2, .slice A3 n3 c3, .slice A4 n4 c4, .int .i64 cmd2] 30)
  have hxY := heap_alloc_new w9 (.cells #[.int .i64 code2, .string text2, .slice A3 n3 c3, .slice A4 n4 c4, .int .i64 cmd2] 30)
  have hrY := hr10.then_ (fr_alloc (fr_refl w9) (.cells #[.int .i64 code2, .string text2, .slice A3 n3 c3, .slice A4 n4 c4, .int .i64 cmd2] 30))
  have hrX := hr9.then_ hbY
  have hxX : Arr (w9.alloc (.cells #[.int .i64 code2, .string text2, .slice A3 n3 c3, .slice A4 n4 c4, .int .i64 cmd2] 30)) w8.heap.size 30 [.int .i64 code, .string text, .slice A1 n1 c1, .slice A2 n2 c2, .int .i64 cmd] := (hbY.block _ (by omega)).trans hx9
  have hxY' : Arr (w9.alloc (.cells #[.int .i64 code2, .string text2, .slice A3 n3 c3, .slice A4 n4 c4, .int .i64 cmd2] 30)) w9.heap.size 30 [.int .i64 code2, .string text2, .slice A3 n3 c3, .slice A4 n4 c4, .int .i64 cmd2] := hxY
  clear z0 z1 z2 z3 z4 z5 hzl hr9 hr10 hx9 hxY HY hbY
  have z0 := (HA.out _ hb11b).cell (i := 0) rfl
  have z1 := (HA.out _ hb11b).cell (i := 1) rfl
  have z2 := (HA.out _ hb11b).cell (i := 2) rfl
  have z3 := (HA.out _ hb11b).cell (i := 3) rfl
  have z4 := (HA.out _ hb11b).cell (i := 4) rfl
  have z5 := (HA.out _ hb11b).cell (i := 5) rfl
  have hzl := (HA.out _ hb11b).lt
  cases hli : a.commands.any isList
  · have HD2 := Lib.hid (HD.out hli)
    have HC := Lib.hid (HL.out _ hb11)
    rw [hli] at HC
    have hl9 := hrX.looks
    have hm2 : n2 ≤ 9223372036854775807 := hl9.2.1
    have HN2 := Lib.hid hl9.1
    have HXa := Lib.hid hxX
    have HYa := Lib.hid hxY'
    have HrX := Lib.hid hrX
    have HrY := Lib.hid hrY
    clear hli HD HL hxX hxY' hrX hrY
    go_wp2_with fail
    refine HC.out.mono ?_
    rintro e w10 ⟨rfl, hb12⟩
    have hb13 := fr_call hb11 hb12
    have y3 := ((HXa.out.call hb12)).cell (i := 3) rfl
    have hyl := (HXa.out.call hb12).lt
    have hl10 := sl_call hl9 hb12 (Nat.le_refl _)
    clear z0 z1 z2 z3 z4 z5 hzl hl9
    go_wp2
    go_loopw [10] (fun i wr => ∃ k : Nat, k ≤ n2 ∧ i = .int .i64 k ∧ (looks.take k).all (fun y => alikeS F O y.path) = true ∧ Below w10.heap.size w10 wr) (fun i _ => n2 - (intOf i).toNat)
    case atStart => exact ⟨0, Nat.zero_le _, rfl, rfl, Below.refl _ _⟩
    case round =>
      obtain ⟨k, hk, rfl, hall, hbel⟩ := hrel
      have H := Lib.hid hall; clear hall
      have v3 := (hbel.cell (p := ⟨w8.heap.size, 3, none⟩) hyl).trans y3
      have hzr := hbel.size
      have hyr : w8.heap.size < wr.heap.size := by omega
      have hbw := fr_call hb13 hbel
      by_cases hlt : k < n2
      · obtain ⟨b, o, x, rfl, hb, hx, hs1, hs2, d0, d1, d2⟩ := (hl10.keep (keep_lt hbel)).look hlt
        have hkI : (k : Int) < (n2 : Int) := by omega
        have HQ := Lib.hid (law5_alike L nl cl F E ne ce O x.path wr (sl_call hF hbw (Nat.le_refl _)) (sl_call hO hbw (Nat.le_refl _)))
        have HXx := Lib.hid hx
        clear hx y3
        cases hq : alikeS F O x.path
        · rw [hq] at HQ
          go_wp2_with fail
          refine HQ.out.mono ?_
          rintro e w11 ⟨rfl, hb14⟩
          have hb15 := fr_call hbw hb14
          go_wp2_with fail
          refine (law5_awake _ (hE.then_ hb15).toEnv).mono ?_
          rintro e wz ⟨rfl, hbz⟩
          go_wp2
          go_ret
          exact ⟨rfl, fr_call hb15 hbz⟩
        · rw [hq] at HQ
          have HS := Lib.hid (all_more H.out HXx.out hq)
          go_wp2_with fail
          refine HQ.out.mono ?_
          rintro e w11 ⟨rfl, hb14⟩
          have hb15 := fr_call hbel hb14
          go_wp2
          go_roundw
          case rel => exact ⟨k + 1, by omega, by go_num, HS.out, hb15⟩
          case measure => simp [intOf]; omega
      · have hall := H.out
        rw [List.take_of_length_le (by rw [HN2.out]; omega)] at hall
        have hRR := HD2.out (agree_of hall)
        obtain ⟨rfl, rfl, rfl, rfl, rfl⟩ : code2 = code ∧ text2 = text ∧ fs2 = fs ∧ looks2 = looks ∧ cmd2 = cmd := by cases hRR; exact ⟨rfl, rfl, rfl, rfl, rfl⟩
        have hbz := fr_call hb12 hbel
        have hXr := HXa.out.call hbz
        have hYr := HYa.out.call hbz
        have x0 := hXr.cell (i := 0) rfl
        have x1 := hXr.cell (i := 1) rfl
        have x2 := hXr.cell (i := 2) rfl
        have x3 := hXr.cell (i := 3) rfl
        have x4 := hXr.cell (i := 4) rfl
        have u0 := hYr.cell (i := 0) rfl
        have u1 := hYr.cell (i := 1) rfl
        have u2 := hYr.cell (i := 2) rfl
        have u3 := hYr.cell (i := 3) rfl
        have u4 := hYr.cell (i := 4) rfl
        have hul := hYr.lt
        have HS := Lib.hid (ref5_SameResult _ A1 A3 n1 n3 c1 c3 A2 A4 n2 n4 c2 c4 wr (HrX.out.then_ hbz) (HrY.out.then_ hbz))
        unfold resVal at HS
        simp only at HS
        clear hXr hYr y3 v3 hall hRR HrX HrY HXa HYa
        go_wp2_with fail
        refine HS.out.mono ?_
        rintro e w11 ⟨rfl, hb14⟩
        have hb15 := fr_call hbw hb14
        clear x0 x1 x2 x3 x4 u0 u1 u2 u3 u4
        go_wp2_with fail
        refine (law5_awake _ (hE.then_ hb15).toEnv).mono ?_
        rintro e wz ⟨rfl, hbz⟩
        go_wp2
        go_ret
        exact ⟨rfl, fr_call hb15 hbz⟩
  · have HC := Lib.hid (HL.out _ hb11)
    rw [hli] at HC
    clear hli HD HL hxX hxY' hrX hrY
    go_wp2_with fail
    refine HC.out.mono ?_
    rintro e w10 ⟨rfl, hb12⟩
    have hb13 := fr_call hb11 hb12
    clear z0 z1 z2 z3 z4 z5 hzl
    go_wp2_with fail
    refine (law5_awake _ (hE.then_ hb13).toEnv).mono ?_
    rintro e wz ⟨rfl, hbz⟩
    go_wp2
    go_ret
    exact ⟨rfl, fr_call hb13 hbz⟩
end Go.Proofs.Sm

namespace Go.Proofs.Sm
open Go.RowKit Go.ChangeShapes Go.WideShapes Go.ChangeAt

theorem own : ownKnob Tryz.prog.godebug = none := by kernel_rfl
theorem laidOut : laidOutB Tryz.prog = true := by kernel_rfl

section
variable {H : Type} {enc : TypeId × Value → H} {w : World} {base : Nat} {spare : Nat → Bool} {held : Bool}
theorem at_some {α : Type} {xs : List α} {n i : Nat} (h : xs.length = n) (hi : i < n) : ∃ y, xs[i]? = some y := ⟨xs[i]'(by omega), List.getElem?_eq_getElem _⟩
theorem three_of {α : Type} {l : List α} (h : l.length = 3) : ∃ a b c, l = [a, b, c] := by
  rcases l with _ | ⟨a, _ | ⟨b, _ | ⟨c, _ | ⟨e, r⟩⟩⟩⟩
  · simp at h
  · simp at h
  · simp at h
  · exact ⟨a, b, c, rfl⟩
  · simp at h
theorem dec_look : Dec enc Tryz.prog w base spare held 38 Look := fun fuel cs d h => by
  obtain ⟨xs, n, _, _, hlen, hxl, hf⟩ := DataW.trod_struct Tryz.underlying38 h
  have hc : Tryz.prog.cellsOf 38 = 3 := by kernel_rfl
  have cS : Tryz.prog.cellsOf 9 = 1 := by kernel_rfl
  have cB : Tryz.prog.cellsOf 4 = 1 := by kernel_rfl
  rw [hc] at hlen
  have hxl' : xs.length = 3 := hxl
  obtain ⟨a, b, c, rfl⟩ := three_of hlen
  · -- the three cells
    obtain ⟨y0, e0⟩ := at_some hxl' (show 0 < 3 by decide)
    obtain ⟨y1, e1⟩ := at_some hxl' (show 1 < 3 by decide)
    obtain ⟨y2, e2⟩ := at_some hxl' (show 2 < 3 by decide)
    have f0 : DataW.trod enc Tryz.prog w base spare held n 9 [a] = some y0 := by
      have h := (hf 0 _ rfl).trans e0
      change DataW.trod enc _ w base spare held n 9 (List.take (Tryz.prog.cellsOf 9) (List.drop 0 [a, b, c])) = some y0 at h
      rw [cS] at h
      exact h
    have f1 : DataW.trod enc Tryz.prog w base spare held n 9 [b] = some y1 := by
      have h := (hf 1 _ rfl).trans e1
      change DataW.trod enc _ w base spare held n 9 (List.take (Tryz.prog.cellsOf 9) (List.drop 1 [a, b, c])) = some y1 at h
      rw [cS] at h
      exact h
    have f2 : DataW.trod enc Tryz.prog w base spare held n 4 [c] = some y2 := by
      have h := (hf 2 _ rfl).trans e2
      change DataW.trod enc _ w base spare held n 4 (List.take (Tryz.prog.cellsOf 4) (List.drop 2 [a, b, c])) = some y2 at h
      rw [cB] at h
      exact h
    obtain ⟨s0, h0, _, z0⟩ := DataW.trod_string Tryz.underlying9 f0
    obtain ⟨s1, h1, _, z1⟩ := DataW.trod_string Tryz.underlying9 f1
    obtain ⟨r, h2, _⟩ := DataW.trod_bool Tryz.underlying4 f2
    cases h0; cases h1; cases h2
    exact ⟨⟨s0, s1, r⟩, rfl, z0, z1⟩
theorem dec_bytes : Dec enc Tryz.prog w base spare held 48 (List UInt8) := dec_slice Tryz.underlying48 (by kernel_rfl) (by decide) (dec_u8 Tryz.underlying5)
theorem dec_file : Dec enc Tryz.prog w base spare held 50 FileV := fun fuel cs d h => by
  obtain ⟨xs, n, _, _, hlen, hxl, hf⟩ := DataW.trod_struct Tryz.underlying50 h
  have hc : Tryz.prog.cellsOf 50 = 3 := by kernel_rfl
  have cS : Tryz.prog.cellsOf 9 = 1 := by kernel_rfl
  have cB : Tryz.prog.cellsOf 4 = 1 := by kernel_rfl
  have cL : Tryz.prog.cellsOf 48 = 1 := by kernel_rfl
  rw [hc] at hlen
  have hxl' : xs.length = 3 := hxl
  obtain ⟨a, b, c, rfl⟩ := three_of hlen
  · -- the three cells
    obtain ⟨y0, e0⟩ := at_some hxl' (show 0 < 3 by decide)
    obtain ⟨y1, e1⟩ := at_some hxl' (show 1 < 3 by decide)
    obtain ⟨y2, e2⟩ := at_some hxl' (show 2 < 3 by decide)
    have f0 : DataW.trod enc Tryz.prog w base spare held n 9 [a] = some y0 := by
      have h := (hf 0 _ rfl).trans e0
      change DataW.trod enc _ w base spare held n 9 (List.take (Tryz.prog.cellsOf 9) (List.drop 0 [a, b, c])) = some y0 at h
      rw [cS] at h
      exact h
    have f1 : DataW.trod enc Tryz.prog w base spare held n 4 [b] = some y1 := by
      have h := (hf 1 _ rfl).trans e1
      change DataW.trod enc _ w base spare held n 4 (List.take (Tryz.prog.cellsOf 4) (List.drop 1 [a, b, c])) = some y1 at h
      rw [cB] at h
      exact h
    have f2 : DataW.trod enc Tryz.prog w base spare held n 48 [c] = some y2 := by
      have h := (hf 2 _ rfl).trans e2
      change DataW.trod enc _ w base spare held n 48 (List.take (Tryz.prog.cellsOf 48) (List.drop 2 [a, b, c])) = some y2 at h
      rw [cL] at h
      exact h
    obtain ⟨s0, h0, _, z0⟩ := DataW.trod_string Tryz.underlying9 f0
    obtain ⟨r, h1, _⟩ := DataW.trod_bool Tryz.underlying4 f1
    obtain ⟨bs, A, k, m, h2, q1, q2, q3⟩ := dec_bytes _ _ _ f2
    cases h0; cases h1; cases h2
    exact ⟨⟨s0, r, bs⟩, z0, A, k, m, rfl, q1, q2, q3⟩
theorem dec_looks : Dec enc Tryz.prog w base spare held 28 (List Look) := dec_slice Tryz.underlying28 (by kernel_rfl) (by decide) dec_look
theorem dec_files : Dec enc Tryz.prog w base spare held 27 (List FileV) := dec_slice Tryz.underlying27 (by kernel_rfl) (by decide) dec_file
/-- a slice argument, as a value -/
theorem arg_slice {α : Type} [Rep α] {t : TypeId} {v : Value} {d : DataW H} {p : List MemPlace} (hd : Dec enc Tryz.prog w base spare held t (List α)) (hv : ∃ a n c, v = .slice a n c) (h : DataW.Trod enc Tryz.prog w base spare held t v d p) :
    ∃ (A : Option Addr) (n c : Nat) (l : List α), v = .slice A n c ∧ Sl w (Lt w.heap.size) A n l := by
  obtain ⟨a, n, c, rfl⟩ := hv
  obtain ⟨fuel, hf⟩ := h
  obtain ⟨l, A, n', c', e, _, _, hs⟩ := hd _ _ _ hf
  simp [Value.cells] at e
  obtain ⟨rfl, rfl, rfl⟩ := e
  exact ⟨_, _, _, l, rfl, hs⟩
end
theorem first_pinned : Go.Pinned.utf8First = Lib.firstData := by kernel_rfl
theorem accept_laid : YtkdogcpgbogkhaaGreatDoor.Rows.laid_unicode_utf8_acceptRanges = Lib.acceptData := by kernel_rfl
/-- The tables of utf8, and the length that bytealg takes. -/
theorem env_of {laid : List (String × DataW Unit)} {W : World} (hL : laidMet Tryz.prog laid W) (hS : W.ShapedOpen Tryz.prog) (h3 : ("unicode/utf8.first", Go.Pinned.utf8First) ∈ laid) (h4 : ("unicode/utf8.acceptRanges", YtkdogcpgbogkhaaGreatDoor.Rows.laid_unicode_utf8_acceptRanges) ∈ laid) : Env W where
  size := by
    have hsome : (((begin Tryz.prog (fun _ _ => 0) default).world.heap[7]?).bind Obj.row?).isSome = true := by kernel_rfl
    have hlt : 7 < Tryz.prog.globals.size := of_decide_eq_true (by kernel_rfl)
    obtain ⟨⟨zero, t⟩, hz⟩ := Option.isSome_iff_exists.1 hsome
    obtain ⟨cs, hh, _⟩ := hS.1 _ zero t hlt hz
    exact (Array.getElem?_eq_some_iff.1 hh).1
  most := Tryz.laysM143.s1_3 W hS
  utf8 := utf8Tabs_of_reads { Tryz.lays260 with } ⟨by kernel_rfl, by kernel_rfl, by kernel_rfl, by kernel_rfl, by kernel_rfl, by kernel_rfl, by kernel_rfl⟩
    (by have := Lib.laidMet.reads hL h3; rwa [first_pinned] at this) (by have := Lib.laidMet.reads hL h4; rwa [accept_laid] at this)
end Go.Proofs.Sm

namespace Go.Proofs.Sm
open Go.RowKit Go.ChangeShapes Go.WideShapes Go.ChangeAt

section
variable {H : Type} {enc : TypeId × Value → H} {w : World} {base : Nat} {spare : Nat → Bool} {held : Bool}
theorem five_of {α : Type} {l : List α} (h : l.length = 5) : ∃ a b c d e, l = [a, b, c, d, e] := by
  rcases l with _ | ⟨a, _ | ⟨b, _ | ⟨c, _ | ⟨d, _ | ⟨e, _ | ⟨f, r⟩⟩⟩⟩⟩⟩
  all_goals (try (simp at h; done))
  exact ⟨a, b, c, d, e, rfl⟩
theorem result_of {cs : List Value} {fuel : Nat} {d : DataW H × List MemPlace} (h : DataW.trod enc Tryz.prog w base spare held fuel 30 cs = some d) :
    ∃ r A n c B m e, ResIs w r A n B m ∧ cs = [.int .i64 r.code, .string r.text, .slice A n c, .slice B m e, .int .i64 r.command] := by
  obtain ⟨xs, n, _, _, hlen, hxl, hf⟩ := DataW.trod_struct Tryz.underlying30 h
  have hc : Tryz.prog.cellsOf 30 = 5 := by kernel_rfl
  have cI : Tryz.prog.cellsOf 3 = 1 := by kernel_rfl
  have cS : Tryz.prog.cellsOf 9 = 1 := by kernel_rfl
  have cF : Tryz.prog.cellsOf 27 = 1 := by kernel_rfl
  have cL : Tryz.prog.cellsOf 28 = 1 := by kernel_rfl
  rw [hc] at hlen
  have hxl' : xs.length = 5 := hxl
  obtain ⟨a0, a1, a2, a3, a4, rfl⟩ := five_of hlen
  obtain ⟨y0, e0⟩ := at_some hxl' (show 0 < 5 by decide)
  obtain ⟨y1, e1⟩ := at_some hxl' (show 1 < 5 by decide)
  obtain ⟨y2, e2⟩ := at_some hxl' (show 2 < 5 by decide)
  obtain ⟨y3, e3⟩ := at_some hxl' (show 3 < 5 by decide)
  obtain ⟨y4, e4⟩ := at_some hxl' (show 4 < 5 by decide)
  have f0 : DataW.trod enc Tryz.prog w base spare held n 3 [a0] = some y0 := by
    have h := (hf 0 _ rfl).trans e0
    change DataW.trod enc _ w base spare held n 3 (List.take (Tryz.prog.cellsOf 3) (List.drop 0 [a0, a1, a2, a3, a4])) = some y0 at h
    rw [cI] at h
    exact h
  have f1 : DataW.trod enc Tryz.prog w base spare held n 9 [a1] = some y1 := by
    have h := (hf 1 _ rfl).trans e1
    change DataW.trod enc _ w base spare held n 9 (List.take (Tryz.prog.cellsOf 9) (List.drop 1 [a0, a1, a2, a3, a4])) = some y1 at h
    rw [cS] at h
    exact h
  have f2 : DataW.trod enc Tryz.prog w base spare held n 27 [a2] = some y2 := by
    have h := (hf 2 _ rfl).trans e2
    change DataW.trod enc _ w base spare held n 27 (List.take (Tryz.prog.cellsOf 27) (List.drop 2 [a0, a1, a2, a3, a4])) = some y2 at h
    rw [cF] at h
    exact h
  have f3 : DataW.trod enc Tryz.prog w base spare held n 28 [a3] = some y3 := by
    have h := (hf 3 _ rfl).trans e3
    change DataW.trod enc _ w base spare held n 28 (List.take (Tryz.prog.cellsOf 28) (List.drop 3 [a0, a1, a2, a3, a4])) = some y3 at h
    rw [cL] at h
    exact h
  have f4 : DataW.trod enc Tryz.prog w base spare held n 3 [a4] = some y4 := by
    have h := (hf 4 _ rfl).trans e4
    change DataW.trod enc _ w base spare held n 3 (List.take (Tryz.prog.cellsOf 3) (List.drop 4 [a0, a1, a2, a3, a4])) = some y4 at h
    rw [cI] at h
    exact h
  obtain ⟨n0, r0, z0⟩ := dec_int Tryz.underlying3 _ _ _ f0
  obtain ⟨s1, r1, z1⟩ := dec_string Tryz.underlying9 _ _ _ f1
  obtain ⟨l2, A, k2, c2, r2, _, _, z2⟩ := dec_files _ _ _ f2
  obtain ⟨l3, B, k3, c3, r3, _, _, z3⟩ := dec_looks _ _ _ f3
  obtain ⟨n4, r4, z4⟩ := dec_int Tryz.underlying3 _ _ _ f4
  cases r0; cases r1; cases r2; cases r3; cases r4
  exact ⟨⟨n0, s1, l2, l3, n4⟩, A, k2, c2, B, k3, c3, ⟨z0, z1, z2, z3, z4⟩, rfl⟩
end
theorem tab_of_reads {W : World} {name : String} {k : IntKind} {zs : List Int} {g : Nat} {t e : TypeId} {n : Nat} (hg : Tryz.prog.globalNamed name = some g) (hty : (Tryz.prog.globals[g]?).map (·.type) = some t)
    (ht : Tryz.prog.underlying t = some (.array n e)) (he : Tryz.prog.underlying e = some (.int k)) (hce : Tryz.prog.cellsOf e = 1) (hct : Tryz.prog.cellsOf t = n) (h : Lib.VarReads Tryz.prog W name (Lib.tabData k zs)) : Lib.TabIs Tryz.prog W name k zs := by
  obtain ⟨g', t', cs, fuel, p, hg', ht', hvar, hd⟩ := h
  obtain rfl := Option.some.inj (hg.symm.trans hg')
  obtain rfl := Option.some.inj (hty.symm.trans ht')
  unfold Lib.TabIs
  rw [hvar, ← Lib.cells_of_tab ht he hce hct hd]
theorem pow_laid : YtkdogcpgbogkhaaGreatDoor.Rows.laid_internal_strconv_uint64pow10 = Lib.tabData (H := Unit) .u64 Lib.pow10Tab := by kernel_rfl
theorem env2_of {laid : List (String × DataW Unit)} {W : World} (hL : laidMet Tryz.prog laid W) (hS : W.ShapedOpen Tryz.prog) (h3 : ("unicode/utf8.first", Go.Pinned.utf8First) ∈ laid) (h4 : ("unicode/utf8.acceptRanges", YtkdogcpgbogkhaaGreatDoor.Rows.laid_unicode_utf8_acceptRanges) ∈ laid)
    (h5 : ("internal/strconv.uint64pow10", YtkdogcpgbogkhaaGreatDoor.Rows.laid_internal_strconv_uint64pow10) ∈ laid) : Env2 W where
  toEnv := env_of hL hS h3 h4
  pow := tab_of_reads (g := 5) (t := 332) (e := 169) (n := 20) (by kernel_rfl) (by kernel_rfl) Tryz.underlying332 Tryz.underlying169 (by kernel_rfl) (by kernel_rfl) (by have := Lib.laidMet.reads hL h5; rwa [pow_laid] at this)
/-- the cells of plain data -/
def flatD : Nat → DataW Unit → List Value
  | 0, _ => []
  | _ + 1, .lit (.int k n) => [.int k n]
  | f + 1, .agg l => l.flatMap (flatD f)
  | _, _ => []
/-- THE WITNESS's WORLD: the settled one, with plain tables laid. -/
noncomputable def tableWorld (os : Os) (tabs : List (Nat × DataW Unit)) : World :=
  let w0 := World.holding Tryz.prog os ⟨#[], #[], []⟩
  { w0 with heap := tabs.foldl (fun h t => h.modify t.1 fun
    | .cells _ ty frozen => .cells (flatD 4 t.2).toArray ty frozen
    | o => o) w0.heap }
end Go.Proofs.Sm

namespace Go.Proofs.Sm
open Go.RowKit Go.ChangeShapes Go.WideShapes Go.ChangeAt

section
variable {H : Type} {enc : TypeId × Value → H} {w : World} {base : Nat} {spare : Nat → Bool} {held : Bool}
theorem two_of {α : Type} {l : List α} (h : l.length = 2) : ∃ a b, l = [a, b] := by
  rcases l with _ | ⟨a, _ | ⟨b, _ | ⟨c, r⟩⟩⟩
  all_goals (try (simp at h; done))
  exact ⟨a, b, rfl⟩
theorem six_of {α : Type} {l : List α} (h : l.length = 6) : ∃ a b c d e f, l = [a, b, c, d, e, f] := by
  rcases l with _ | ⟨a, _ | ⟨b, _ | ⟨c, _ | ⟨d, _ | ⟨e, _ | ⟨f, _ | ⟨g, r⟩⟩⟩⟩⟩⟩⟩
  all_goals (try (simp at h; done))
  exact ⟨a, b, c, d, e, f, rfl⟩
theorem dec_var : Dec enc Tryz.prog w base spare held 223 VarV := fun fuel cs d h => by
  obtain ⟨xs, n, _, _, hlen, hxl, hf⟩ := DataW.trod_struct Tryz.underlying223 h
  have hc : Tryz.prog.cellsOf 223 = 2 := by kernel_rfl
  have cS : Tryz.prog.cellsOf 9 = 1 := by kernel_rfl
  rw [hc] at hlen
  have hxl' : xs.length = 2 := hxl
  obtain ⟨a, b, rfl⟩ := two_of hlen
  · -- the two cells
    obtain ⟨y0, e0⟩ := at_some hxl' (show 0 < 2 by decide)
    obtain ⟨y1, e1⟩ := at_some hxl' (show 1 < 2 by decide)
    have f0 : DataW.trod enc Tryz.prog w base spare held n 9 [a] = some y0 := by
      have h := (hf 0 _ rfl).trans e0
      change DataW.trod enc _ w base spare held n 9 (List.take (Tryz.prog.cellsOf 9) (List.drop 0 [a, b])) = some y0 at h
      rw [cS] at h
      exact h
    have f1 : DataW.trod enc Tryz.prog w base spare held n 9 [b] = some y1 := by
      have h := (hf 1 _ rfl).trans e1
      change DataW.trod enc _ w base spare held n 9 (List.take (Tryz.prog.cellsOf 9) (List.drop 1 [a, b])) = some y1 at h
      rw [cS] at h
      exact h
    obtain ⟨s0, h0, _, z0⟩ := DataW.trod_string Tryz.underlying9 f0
    obtain ⟨s1, h1, _, z1⟩ := DataW.trod_string Tryz.underlying9 f1
    cases h0; cases h1
    exact ⟨⟨s0, s1⟩, rfl, z0, z1⟩
theorem dec_strs : Dec enc Tryz.prog w base spare held 24 (List ByteArray) := dec_slice Tryz.underlying24 (by kernel_rfl) (by decide) (dec_string Tryz.underlying9)
theorem dec_rows : Dec enc Tryz.prog w base spare held 22 (List (List ByteArray)) := dec_slice Tryz.underlying22 (by kernel_rfl) (by decide) dec_strs
theorem dec_vars : Dec enc Tryz.prog w base spare held 23 (List VarV) := dec_slice Tryz.underlying23 (by kernel_rfl) (by decide) dec_var
theorem action_of {cs : List Value} {fuel : Nat} {d : DataW H × List MemPlace} (h : DataW.trod enc Tryz.prog w base spare held fuel 26 cs = some d) :
    ∃ a A n n' B m m' C p p' D q q', ActIs w a A n B m C p D q ∧ cs = [.string a.tool, .slice A n n', .slice B m m', .slice C p p', .slice D q q', .int .i64 a.time] := by
  obtain ⟨xs, n, _, _, hlen, hxl, hf⟩ := DataW.trod_struct Tryz.underlying26 h
  have hc : Tryz.prog.cellsOf 26 = 6 := by kernel_rfl
  have cI : Tryz.prog.cellsOf 3 = 1 := by kernel_rfl
  have cS : Tryz.prog.cellsOf 9 = 1 := by kernel_rfl
  have cR : Tryz.prog.cellsOf 22 = 1 := by kernel_rfl
  have cV : Tryz.prog.cellsOf 23 = 1 := by kernel_rfl
  have cL : Tryz.prog.cellsOf 24 = 1 := by kernel_rfl
  rw [hc] at hlen
  have hxl' : xs.length = 6 := hxl
  obtain ⟨a0, a1, a2, a3, a4, a5, rfl⟩ := six_of hlen
  obtain ⟨y0, e0⟩ := at_some hxl' (show 0 < 6 by decide)
  obtain ⟨y1, e1⟩ := at_some hxl' (show 1 < 6 by decide)
  obtain ⟨y2, e2⟩ := at_some hxl' (show 2 < 6 by decide)
  obtain ⟨y3, e3⟩ := at_some hxl' (show 3 < 6 by decide)
  obtain ⟨y4, e4⟩ := at_some hxl' (show 4 < 6 by decide)
  obtain ⟨y5, e5⟩ := at_some hxl' (show 5 < 6 by decide)
  have f0 : DataW.trod enc Tryz.prog w base spare held n 9 [a0] = some y0 := by
    have h := (hf 0 _ rfl).trans e0
    change DataW.trod enc _ w base spare held n 9 (List.take (Tryz.prog.cellsOf 9) (List.drop 0 [a0, a1, a2, a3, a4, a5])) = some y0 at h
    rw [cS] at h
    exact h
  have f1 : DataW.trod enc Tryz.prog w base spare held n 22 [a1] = some y1 := by
    have h := (hf 1 _ rfl).trans e1
    change DataW.trod enc _ w base spare held n 22 (List.take (Tryz.prog.cellsOf 22) (List.drop 1 [a0, a1, a2, a3, a4, a5])) = some y1 at h
    rw [cR] at h
    exact h
  have f2 : DataW.trod enc Tryz.prog w base spare held n 23 [a2] = some y2 := by
    have h := (hf 2 _ rfl).trans e2
    change DataW.trod enc _ w base spare held n 23 (List.take (Tryz.prog.cellsOf 23) (List.drop 2 [a0, a1, a2, a3, a4, a5])) = some y2 at h
    rw [cV] at h
    exact h
  have f3 : DataW.trod enc Tryz.prog w base spare held n 24 [a3] = some y3 := by
    have h := (hf 3 _ rfl).trans e3
    change DataW.trod enc _ w base spare held n 24 (List.take (Tryz.prog.cellsOf 24) (List.drop 3 [a0, a1, a2, a3, a4, a5])) = some y3 at h
    rw [cL] at h
    exact h
  have f4 : DataW.trod enc Tryz.prog w base spare held n 23 [a4] = some y4 := by
    have h := (hf 4 _ rfl).trans e4
    change DataW.trod enc _ w base spare held n 23 (List.take (Tryz.prog.cellsOf 23) (List.drop 4 [a0, a1, a2, a3, a4, a5])) = some y4 at h
    rw [cV] at h
    exact h
  have f5 : DataW.trod enc Tryz.prog w base spare held n 3 [a5] = some y5 := by
    have h := (hf 5 _ rfl).trans e5
    change DataW.trod enc _ w base spare held n 3 (List.take (Tryz.prog.cellsOf 3) (List.drop 5 [a0, a1, a2, a3, a4, a5])) = some y5 at h
    rw [cI] at h
    exact h
  obtain ⟨s0, r0, z0⟩ := dec_string Tryz.underlying9 _ _ _ f0
  obtain ⟨l1, A, k1, c1, r1, _, _, z1⟩ := dec_rows _ _ _ f1
  obtain ⟨l2, B, k2, c2, r2, _, _, z2⟩ := dec_vars _ _ _ f2
  obtain ⟨l3, C, k3, c3, r3, _, _, z3⟩ := dec_strs _ _ _ f3
  obtain ⟨l4, D, k4, c4, r4, _, _, z4⟩ := dec_vars _ _ _ f4
  obtain ⟨n5, r5, z5⟩ := dec_int Tryz.underlying3 _ _ _ f5
  cases r0; cases r1; cases r2; cases r3; cases r4; cases r5
  exact ⟨⟨s0, l1, l2, l3, l4, n5⟩, A, k1, c1, B, k2, c2, C, k3, c3, D, k4, c4, ⟨z0, z1, z2, z3, z4, z5⟩, rfl⟩
end
/-- a world that lays errors of package errors, each in a block of its own -/
noncomputable def errWorld (w0 : World) (tp ts : TypeId) (errs : List (Nat × List UInt8)) : World :=
  { w0 with heap := errs.foldl (fun h e => (h.push (.cells #[.string ⟨e.2.toArray⟩] ts (0, 0))).modify e.1 fun
    | .cells _ ty frozen => .cells #[.iface tp (.pointer (some ⟨h.size, 0, none⟩))] ty frozen
    | o => o) w0.heap }
end Go.Proofs.Sm
