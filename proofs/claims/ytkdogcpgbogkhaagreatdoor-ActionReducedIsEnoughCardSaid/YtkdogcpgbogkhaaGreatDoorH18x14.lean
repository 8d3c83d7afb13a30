/- The law: an action without list has the same result over the inputs that it looks at; all others it does not read. -/
import Derived.Test.YtkdogcpgbogkhaaGreatDoorH18x13
import Derived.Test.YtkdogcpgbogkhaaGreatDoorH18x7
import Derived.OwnWalk
import Derived.Test.YtkdogcpgbogkhaaGreatDoorH18x8
import Derived.Test.YtkdogcpgbogkhaaGreatDoorH18x9
import Derived.Test.YtkdogcpgbogkhaaGreatDoorH18x5
import Derived.Deep.RegionHeld3
namespace Go.Proofs.Sm
open Go.RowKit

theorem looksErr_by : ∀ {l : List Look} {prev : Option ByteArray}, looksErr prev l = 0 → (∀ q, prev = some q → ∀ y ∈ l, ltS q y.path = true) ∧ ByPath Look.path l
  | [], _, _ => ⟨fun _ _ _ hy => absurd hy (List.not_mem_nil), List.Pairwise.nil⟩
  | x :: l, prev, h => by
    rw [looksErr] at h
    split at h
    · rename_i h0
      obtain ⟨h1, h2⟩ := looksErr_by h
      have hx : ∀ q, prev = some q → ltS q x.path = true := by
        intro q hq
        subst hq
        unfold lookErr at h0
        split at h0
        · omega
        split at h0
        · omega
        split at h0
        · omega
        split at h0
        · omega
        rename_i h9
        exact leS_lt (by simpa [notAfter] using h9)
      refine ⟨fun q hq y hy => ?_, List.pairwise_cons.2 ⟨fun y hy => h1 x.path rfl y hy, h2⟩⟩
      rcases List.mem_cons.1 hy with rfl | hy
      · exact hx q hq
      · exact ltS_trans (hx q hq) (h1 _ rfl y hy)
    · rename_i h0; exact absurd h h0
theorem looks_by {l : List Look} (h : checkLooksS l = 0) : ByPath Look.path l := by
  unfold checkLooksS at h
  split at h
  · omega
  · exact (looksErr_by h).2
theorem looksOf_parts {l : List Look} {F : List FileV} (h : looksOfErr l F = 0) : checkLooksS l = 0 ∧ checkFilesS F = 0 := by
  unfold looksOfErr at h
  split at h
  · rename_i h1; exact absurd h h1
  · rename_i h1; exact ⟨Classical.not_not.1 h1, h⟩
/-- looks that are as they are in the files stand -/
theorem stands_from {l : List Look} {F : List FileV} (hc : checkLooksS l = 0) (hF : checkFilesS F = 0) (h : l.map (fun y => lookAtS F y.path) = l) : looksOfErr l F = 0 ∧ sameLooksS l (looksOfS l F) = true := by
  have e : looksOfErr l F = 0 := by rw [looksOfErr, if_neg (by rw [hc]; simp), hF]
  refine ⟨e, sameLooksS_iff.2 ?_⟩
  rw [looksOfS, if_pos e, looksAtS, h]
theorem stands_of {l : List Look} {F : List FileV} (h : looksOfErr l F = 0) : looksOfErr (looksOfS l F) F = 0 ∧ sameLooksS (looksOfS l F) (looksOfS (looksOfS l F) F) = true := by
  obtain ⟨h1, h2⟩ := looksOf_parts h
  have e : looksOfS l F = l.map fun x => lookAtS F x.path := by rw [looksOfS, if_pos h]; rfl
  have hp : ByPath Look.path (l.map fun x => lookAtS F x.path) := by
    unfold ByPath
    rw [List.pairwise_map]
    refine (looks_by h1).imp fun {x y} hxy => ?_
    rw [lookAt_path, lookAt_path]; exact hxy
  have hall : ∀ y ∈ l.map (fun x => lookAtS F x.path), y = lookAtS F y.path ∧ IsP y.path := by
    intro y hy
    obtain ⟨x, hx, rfl⟩ := List.mem_map.1 hy
    rw [lookAt_path]
    exact ⟨rfl, (looks_all h1 x hx).1⟩
  rw [e]
  refine stands_from ?_ h2 ?_
  · have := checkLooks_len h1
    rw [checkLooksS, List.length_map, if_neg (by omega)]
    exact looksErr_from hp hall fun q hq => by cases hq
  · rw [List.map_map]
    refine List.map_congr_left fun x _ => ?_
    show lookAtS F (lookAtS F x.path).path = lookAtS F x.path
    rw [lookAt_path]
theorem exec_right {a : ActionV} {F : List FileV} (h : bothErr a F = 0) : LooksRight a F ∧ ResultRight a F ∧ checkFilesS F = 0 := by
  obtain ⟨h1, h2, _⟩ := both_ok h
  obtain ⟨h3, h4⟩ := action_parts h1
  exact ⟨looks_right h3 (checkAction_ok h1).commands (files_isP h2) (checkFiles_len h2), result_right h3 (checkAction_ok h1).commands h4 (files_isP h2) (checkFiles_len h2), h2⟩
theorem stands_exec {a : ActionV} {F : List FileV} (h : bothErr a F = 0) : looksOfErr (execS a F).looks F = 0 ∧ sameLooksS (execS a F).looks (looksOfS (execS a F).looks F) = true :=
  stands_from (exec_right h).1.right (exec_right h).2.2 (exec_right h).1.stand
theorem act_box (w : World) (a : ActionV) (A : Option Addr) (n n' : Nat) (B : Option Addr) (m m' : Nat) (C : Option Addr) (p p' : Nat) (D : Option Addr) (q q' : Nat) : Arr (w.alloc (.cells #[.string a.tool, .slice A n n', .slice B m m', .slice C p p', .slice D q q', .int .i64 a.time] 26)) w.heap.size 26 [.string a.tool, .slice A n n', .slice B m m', .slice C p p', .slice D q q', .int .i64 a.time] :=
  heap_alloc_new w _
set_option maxHeartbeats 2000000 in
set_option maxRecDepth 100000 in
theorem law_stand (a : ActionV) (A : Option Addr) (n n' : Nat) (B : Option Addr) (m m' : Nat) (C : Option Addr) (p p' : Nat) (D : Option Addr) (q q' : Nat) (L : Option Addr) (nl cl : Nat) (F : List FileV) (E : Option Addr) (ne ce : Nat) (l : List Look) (w : World) (hE : Env2 w) (ha : ActIs w a A n B m C p D q) (hF : Sl w (Lt w.heap.size) L nl F) (hl : Sl w (Lt w.heap.size) E ne l) :
    Calls Tryz.prog 5 #[actVal a A n n' B m m' C p p' D q q', .slice L nl cl, .slice E ne ce] w fun e w' => e = .returned (.bool true) ∧ Below w.heap.size w w' := by
  have hba := fr_alloc (fr_refl w) (.cells #[.string a.tool, .slice A n n', .slice B m m', .slice C p p', .slice D q q', .int .i64 a.time] 26)
  have HA := Lib.hid (fun wx (hb : Below (w.alloc (.cells #[.string a.tool, .slice A n n', .slice B m m', .slice C p p', .slice D q q', .int .i64 a.time] 26)).heap.size (w.alloc (.cells #[.string a.tool, .slice A n n', .slice B m m', .slice C p p', .slice D q q', .int .i64 a.time] 26)) wx) => (act_box w a A n n' B m m' C p p' D q q').call hb)
  have HL := Lib.hid (act_LooksOf E L ne ce nl cl l F _ (hE.then_ hba).toEnv (sl_call hl hba (Nat.le_refl _)) (sl_call hF hba (Nat.le_refl _)))
  rcases Decidable.em (¬ bothErr a F = 0) with hbad | hok
  · have HX := Lib.hid (fun w1 (hb : Below w.heap.size w w1) => exec_bad a A n n' B m m' C p p' D q q' L nl cl F w1 (hE.then_ hb) (ha.then_ hb) (sl_call hF hb (Nat.le_refl _)) hbad)
    have hb0 : (bothErr a F == 0) = false := by simpa using hbad
    unfold actVal resVal noResult at *
    clear hbad ha hl
    generalize bothErr a F = z at *
    go_enter Tryz.func5, Tryz.ntmps5
    go_wp2_with fail
    refine HL.out.mono ?_
    rintro e w1 ⟨A1, n1, c1, rfl, _, _, s1, b1⟩
    rcases Decidable.em (¬ looksOfErr l F = 0) with hl0 | hl0
    · have hlb : (looksOfErr l F == 0) = false := by simpa using hl0
      generalize looksOfErr l F = z1 at *
      clear s1
      have z0 := (HA.out _ b1).cell (i := 0) rfl
      have z1 := (HA.out _ b1).cell (i := 1) rfl
      have z2 := (HA.out _ b1).cell (i := 2) rfl
      have z3 := (HA.out _ b1).cell (i := 3) rfl
      have z4 := (HA.out _ b1).cell (i := 4) rfl
      have z5 := (HA.out _ b1).cell (i := 5) rfl
      have hzl := (HA.out _ b1).lt
      go_wp2_with fail
      refine (HX.out _ (fr_box (fr_refl w) b1)).mono ?_
      rintro e w8 ⟨rfl, hb8⟩
      have hb9 := fr_alloc (fr_call (fr_box (fr_refl w) b1) hb8) (.cells #[.int .i64 0, .string ⟨#[]⟩, .slice none 0 0, .slice none 0 0, .int .i64 0] 30)
      clear z0 z1 z2 z3 z4 z5
      go_wp2_with fail
      refine (law5_awake _ (hE.then_ hb9).toEnv).mono ?_
      rintro e w9 ⟨rfl, hb10⟩
      go_wp2
      go_ret
      exact ⟨rfl, fr_call hb9 hb10⟩
    · have hl0 : looksOfErr l F = 0 := Decidable.not_not.1 hl0
      have HS := Lib.hid (act_Stands A1 L n1 c1 nl cl (looksOfS l F) F w1 (hE.then_ (fr_box (fr_refl w) b1)).toEnv s1 (sl_call hF (fr_box (fr_refl w) b1) (Nat.le_refl _)))
      rw [(stands_of hl0).1, (stands_of hl0).2] at HS
      rw [hl0]
      clear s1
      go_wp2_with fail
      refine HS.out.mono ?_
      rintro e w2 ⟨rfl, b2⟩
      have b3 := b1.trans (b2.mono b1.size)
      clear b1 b2
      have z0 := (HA.out _ b3).cell (i := 0) rfl
      have z1 := (HA.out _ b3).cell (i := 1) rfl
      have z2 := (HA.out _ b3).cell (i := 2) rfl
      have z3 := (HA.out _ b3).cell (i := 3) rfl
      have z4 := (HA.out _ b3).cell (i := 4) rfl
      have z5 := (HA.out _ b3).cell (i := 5) rfl
      have hzl := (HA.out _ b3).lt
      go_wp2_with fail
      refine (HX.out _ (fr_box (fr_refl w) b3)).mono ?_
      rintro e w8 ⟨rfl, hb8⟩
      have hb9 := fr_alloc (fr_call (fr_box (fr_refl w) b3) hb8) (.cells #[.int .i64 0, .string ⟨#[]⟩, .slice none 0 0, .slice none 0 0, .int .i64 0] 30)
      clear z0 z1 z2 z3 z4 z5
      go_wp2_with fail
      refine (law5_awake _ (hE.then_ hb9).toEnv).mono ?_
      rintro e w9 ⟨rfl, hb10⟩
      go_wp2
      go_ret
      exact ⟨rfl, fr_call hb9 hb10⟩
  · have hok : bothErr a F = 0 := Decidable.not_not.1 hok
    have HX := Lib.hid (fun w1 (hb : Below w.heap.size w w1) => exec_ok a A n n' B m m' C p p' D q q' L nl cl F w1 (hE.then_ hb) (ha.then_ hb) (sl_call hF hb (Nat.le_refl _)) hok)
    have HV := Lib.hid (stands_exec hok)
    unfold ExecPost at HX
    generalize execS a F = R at *
    obtain ⟨code, text, fs, looks, cmd⟩ := R
    unfold actVal resVal at *
    simp only at HX HV
    clear hok ha hl
    go_enter Tryz.func5, Tryz.ntmps5
    go_wp2_with fail
    refine HL.out.mono ?_
    rintro e w1 ⟨A1, n1, c1, rfl, _, _, s1, b1⟩
    rcases Decidable.em (¬ looksOfErr l F = 0) with hl0 | hl0
    · have hlb : (looksOfErr l F == 0) = false := by simpa using hl0
      generalize looksOfErr l F = z1 at *
      clear s1
      have z0 := (HA.out _ b1).cell (i := 0) rfl
      have z1 := (HA.out _ b1).cell (i := 1) rfl
      have z2 := (HA.out _ b1).cell (i := 2) rfl
      have z3 := (HA.out _ b1).cell (i := 3) rfl
      have z4 := (HA.out _ b1).cell (i := 4) rfl
      have z5 := (HA.out _ b1).cell (i := 5) rfl
      have hzl := (HA.out _ b1).lt
      go_wp2_with fail
      refine (HX.out _ (fr_box (fr_refl w) b1)).mono ?_
      rintro e w8 ⟨A1, n1, c1, A2, n2, c2, rfl, hr8, hb8⟩
      have hb9 := fr_alloc (fr_call (fr_box (fr_refl w) b1) hb8) (.cells #[.int .i64 code, .string text, .slice A1 n1 c1, .slice A2 n2 c2, .int .i64 cmd] 30)
      have hl9 := sl_call hr8.looks (fr_alloc (fr_refl w8) (.cells #[.int .i64 code, .string text, .slice A1 n1 c1, .slice A2 n2 c2, .int .i64 cmd] 30)) (Nat.le_refl _)
      have HS := Lib.hid (act_Stands A2 L n2 c2 nl cl looks F _ (hE.then_ hb9).toEnv hl9 (sl_call hF hb9 (Nat.le_refl _)))
      rw [HV.out.1, HV.out.2] at HS
      clear z0 z1 z2 z3 z4 z5 hr8 hl9
      go_wp2_with fail
      refine HS.out.mono ?_
      rintro e w9 ⟨rfl, hb10⟩
      have hb11 := fr_call hb9 hb10
      go_wp2_with fail
      refine (law5_awake _ (hE.then_ hb11).toEnv).mono ?_
      rintro e w10 ⟨rfl, hb12⟩
      go_wp2
      go_ret
      exact ⟨rfl, fr_call hb11 hb12⟩
    · have hl0 : looksOfErr l F = 0 := Decidable.not_not.1 hl0
      have HS := Lib.hid (act_Stands A1 L n1 c1 nl cl (looksOfS l F) F w1 (hE.then_ (fr_box (fr_refl w) b1)).toEnv s1 (sl_call hF (fr_box (fr_refl w) b1) (Nat.le_refl _)))
      rw [(stands_of hl0).1, (stands_of hl0).2] at HS
      rw [hl0]
      clear s1
      go_wp2_with fail
      refine HS.out.mono ?_
      rintro e w2 ⟨rfl, b2⟩
      have b3 := b1.trans (b2.mono b1.size)
      clear b1 b2 HS
      have z0 := (HA.out _ b3).cell (i := 0) rfl
      have z1 := (HA.out _ b3).cell (i := 1) rfl
      have z2 := (HA.out _ b3).cell (i := 2) rfl
      have z3 := (HA.out _ b3).cell (i := 3) rfl
      have z4 := (HA.out _ b3).cell (i := 4) rfl
      have z5 := (HA.out _ b3).cell (i := 5) rfl
      have hzl := (HA.out _ b3).lt
      go_wp2_with fail
      refine (HX.out _ (fr_box (fr_refl w) b3)).mono ?_
      rintro e w8 ⟨A1, n1, c1, A2, n2, c2, rfl, hr8, hb8⟩
      have hb9 := fr_alloc (fr_call (fr_box (fr_refl w) b3) hb8) (.cells #[.int .i64 code, .string text, .slice A1 n1 c1, .slice A2 n2 c2, .int .i64 cmd] 30)
      have hl9 := sl_call hr8.looks (fr_alloc (fr_refl w8) (.cells #[.int .i64 code, .string text, .slice A1 n1 c1, .slice A2 n2 c2, .int .i64 cmd] 30)) (Nat.le_refl _)
      have HS := Lib.hid (act_Stands A2 L n2 c2 nl cl looks F _ (hE.then_ hb9).toEnv hl9 (sl_call hF hb9 (Nat.le_refl _)))
      rw [HV.out.1, HV.out.2] at HS
      clear z0 z1 z2 z3 z4 z5 hr8 hl9
      go_wp2_with fail
      refine HS.out.mono ?_
      rintro e w9 ⟨rfl, hb10⟩
      have hb11 := fr_call hb9 hb10
      go_wp2_with fail
      refine (law5_awake _ (hE.then_ hb11).toEnv).mono ?_
      rintro e w10 ⟨rfl, hb12⟩
      go_wp2
      go_ret
      exact ⟨rfl, fr_call hb11 hb12⟩
end Go.Proofs.Sm

namespace Go.Proofs.Sm
open Go.RowKit Go.Maps

theorem filter_at {l : List FileV} {p : FileV → Bool} {k : Nat} {x : FileV} (hx : l[k]? = some x) : (l.take (k + 1)).filter p = (l.take k).filter p ++ (if p x = true then [x] else []) := by
  rw [List.take_add_one, hx, List.filter_append]
  cases h : p x <;> simp [h]
def setL (l : List Look) : List UInt8 → Option Value := fun key => if l.any (fun y => y.path.data.toList == key) then some (.bool true) else none
theorem setL_more {l : List Look} {k : Nat} {x : Look} (hx : l[k]? = some x) : (fun key => if key = x.path.data.toList then some (Value.bool true) else setL (l.take k) key) = setL (l.take (k + 1)) := by
  funext key
  unfold setL
  rw [List.take_add_one, hx, List.any_append]
  by_cases h : key = x.path.data.toList
  · subst h; simp
  · have h' : (x.path.data.toList == key) = false := by simpa using fun e => h e.symm
    rw [if_neg h]
    simp [h']
theorem setL_get (l : List Look) (p : ByteArray) : (setL l p.data.toList).getD (.bool false) = .bool (lookedS l p) := by
  unfold setL lookedS
  have : l.any (fun y => y.path.toList == p.toList) = l.any (fun y => y.path.data.toList == p.data.toList) := by simp [ByteArray.toList_eq]
  rw [this]
  cases l.any (fun y => y.path.data.toList == p.data.toList) <;> rfl
def redS (a : ActionV) (F : List FileV) : List FileV := if bothErr a F = 0 then reducedS a F else []
def unrS (a : ActionV) (F : List FileV) : List FileV := if bothErr a F = 0 then unreadS a F else []
def SplitPost (a : ActionV) (F : List FileV) (w : World) (e : Ending) (w' : World) : Prop :=
  ∃ A1 n1 c1 A2 n2 c2, e = .returned (.tuple #[.slice A1 n1 c1, .slice A2 n2 c2, .int .i64 (bothErr a F)]) ∧ Sl w' (Lt w'.heap.size) A1 n1 (redS a F) ∧ Sl w' (Lt w'.heap.size) A2 n2 (unrS a F) ∧ Below w.heap.size w w'
/-- two rows of files, apart -/
structure Two (w : World) (B : Nat) (v1 v2 : Value) (l1 l2 : List FileV) : Prop where
  r1 : RowK w B 50 (Lt B) v1 l1
  r2 : RowK w B 50 (Lt B) v2 l2
  ne : ∀ g, v1.ownBlock = some g → v2.ownBlock ≠ some g
section
variable {w w1 : World} {B g n cap : Nat} {v1 v2 : Value} {l1 l2 : List FileV} {rows : List (List Value)} {r : List Value} {x : FileV}
theorem Two.call (h : Two w B v1 v2 l1 l2) (hb : Below w.heap.size w w1) : Two w1 B v1 v2 l1 l2 := ⟨h.r1.call hb, h.r2.call hb, h.ne⟩
theorem Two.swap (h : Two w B v1 v2 l1 l2) : Two w B v2 v1 l2 l1 := ⟨h.r2, h.r1, fun g e e2 => h.ne g e2 e⟩
theorem Two.more (h : Two w B v1 v2 l1 l2) (hr : rows.length = l1.length) (hrep : ∀ (i : Nat) (x : FileV) (r : List Value), l1[i]? = some x → rows[i]? = some r → Rep.rep w (Lt B) x r) (hx : Rep.rep w (Lt B) x r)
    (hg : w.grownBy w1 v1.ownBlock) (hown' : w1.ownsRow B 50 3 (.slice (some ⟨g, 0, none⟩) n cap) (l1.length + 1) (rows.flatten ++ r)) (hat : v1.ownBlock = some g ∨ g = w.heap.size) :
    Two w1 B (.slice (some ⟨g, 0, none⟩) n cap) v2 (l1 ++ [x]) l2 := by
  have hno : ∀ g, v1.ownBlock = some g → ¬ Lt B g := fun g e hk => by
    have := (h.r1.kind g e).1
    have : g < B := hk
    omega
  refine ⟨RowK.append (x := x) h.r1.1 hr hrep hx hno hg hown', h.r2.other hg fun g e => ⟨hno g e, h.ne g e⟩, fun g' e e2 => ?_⟩
  obtain rfl : g = g' := by simpa [Value.ownBlock] using e
  rcases hat with h1 | h1
  · exact h.ne _ h1 e2
  · have := (h.r2.kind _ e2).2.lt; omega
end

theorem file_ones (x : ByteArray) (b : Bool) (A : Option Addr) (n c : Nat) : ∀ u ∈ ([.string x, .bool b, .slice A n c] : List Value), u.oneCell' = true := by
  intro u hu
  simp only [List.mem_cons, List.mem_nil_iff, or_false] at hu
  rcases hu with rfl | rfl | rfl <;> rfl
theorem map_bool_under : Tryz.prog.underlying 150 = some (.map 9 4) := by kernel_rfl
theorem bool_zero : ∀ w, (zeroValue 4).run Tryz.prog w = .ok (.bool false) w := fun w => by kernel_rfl
theorem setL_look {w : World} {b n : Nat} {l : List Look} {p : ByteArray} (h : MapIs Tryz.prog 9 w b n (setL l)) (hp : p.size ≤ maxLen) : (Instr.lookup 150 (.map (some b)) (.string p) false).run Tryz.prog w = .ok (.bool (lookedS l p)) w := by
  rw [h.look Tryz.underlying9 map_bool_under (bool_zero w) hp, setL_get]
set_option maxHeartbeats 4000000 in
set_option maxRecDepth 100000 in
theorem act_split (a : ActionV) (A : Option Addr) (n n' : Nat) (B : Option Addr) (m m' : Nat) (C : Option Addr) (p p' : Nat) (D : Option Addr) (q q' : Nat) (L : Option Addr) (nl cl : Nat) (F : List FileV) (w : World) (hE : Env2 w) (ha : ActIs w a A n B m C p D q) (hsl : Sl w (Lt w.heap.size) L nl F) : Calls Tryz.prog 59 #[actVal a A n n' B m m' C p p' D q q', .slice L nl cl] w (SplitPost a F w) := by
  have hba := fr_alloc (fr_refl w) (.cells #[.string a.tool, .slice A n n', .slice B m m', .slice C p p', .slice D q q', .int .i64 a.time] 26)
  rcases Decidable.em (¬ bothErr a F = 0) with hbad | hok
  · have HX := Lib.hid (exec_bad a A n n' B m m' C p p' D q q' L nl cl F _ (hE.then_ hba) (ha.then_ hba) (sl_call hsl hba (Nat.le_refl _)) hbad)
    have HV := Lib.hid (show redS a F = [] ∧ unrS a F = [] from ⟨by rw [redS, if_neg hbad], by rw [unrS, if_neg hbad]⟩)
    have hb0 : (bothErr a F == 0) = false := by simpa using hbad
    unfold actVal resVal noResult at *
    unfold SplitPost
    rw [HV.out.1, HV.out.2]
    clear HV hbad hE ha hsl
    generalize bothErr a F = z at *
    go_enter Tryz.func59, Tryz.ntmps59
    go_wp2_with fail
    refine HX.out.mono ?_
    rintro e w1 ⟨rfl, hb1⟩
    have hb2 := fr_box (fr_refl w) hb1
    go_wp2
    go_ret3
    exact ⟨none, 0, 0, none, 0, 0, rfl, Sl.nil, Sl.nil, (by repeat (first | exact fr_refl _ | refine fr_call ?_ (by assumption) | refine fr_alloc ?_ _ | refine fr_set ?_ (by simp) _ | refine Below.drew ?_ | refine below_drewN ?_ _))⟩
  · have hok : bothErr a F = 0 := Decidable.not_not.1 hok
    have HX := Lib.hid (exec_ok a A n n' B m m' C p p' D q q' L nl cl F _ (hE.then_ hba) (ha.then_ hba) (sl_call hsl hba (Nat.le_refl _)) hok)
    have HV := Lib.hid (show bothErr a F = 0 ∧ redS a F = reducedS a F ∧ unrS a F = unreadS a F from ⟨hok, by rw [redS, if_pos hok], by rw [unrS, if_pos hok]⟩)
    obtain ⟨hca, hcf, _⟩ := both_ok hok
    have hFn := checkFiles_len hcf
    rw [hsl.1] at hFn
    have HLn := Lib.hid hsl.1
    have HFs := Lib.hid (files_sizes hcf)
    obtain ⟨hcc, hco⟩ := action_parts hca
    have hln := (looks_right hcc (checkAction_ok hca).commands (files_isP hcf) (by rw [hsl.1]; exact hFn)).many
    have hm1 : nl ≤ 9223372036854775807 := by omega
    have hmm := @run_makeMap Tryz.prog
    obtain ⟨i0, hi0, hz0, hz1, hz2⟩ := info_parts file_info4
    unfold actVal at *
    unfold SplitPost
    rw [HV.out.2.1, HV.out.2.2, HV.out.1]
    have HS := Lib.hid (fun w' (hb : Below w.heap.size w w') => sl_call hsl hb (Nat.le_refl _))
    unfold reducedS unreadS
    unfold ExecPost at HX
    generalize execS a F = R at *
    obtain ⟨code, text, fs, looks, cmd⟩ := R
    unfold resVal at HX
    simp only at HX hln ⊢
    clear hE ha hsl hok hca hcf hcc hco HV
    go_enter Tryz.func59, Tryz.ntmps59
    go_wp2_with fail
    refine HX.out.mono ?_
    rintro e w1 ⟨A1, n1, c1, A2, n2, c2, rfl, hr1, hb1⟩
    have hb2 := fr_box (fr_refl w) hb1
    have hl2 := hr1.looks
    have hl2n := hl2.1
    simp only at hl2 hl2n
    rw [hl2n] at hln
    have hm2 : n2 ≤ 9223372036854775807 := by omega
    clear hr1 HX
    go_wp2
    have hb13 := fr_alloc (fr_alloc (fr_refl w1) (.cells #[.int .i64 code, .string text, .slice A1 n1 c1, .slice A2 n2 c2, .int .i64 cmd] 30)) (.map #[] 0)
    have hm0 := MapIs.made (P := Tryz.prog) (k := 9) (w1.alloc (.cells #[.int .i64 code, .string text, .slice A1 n1 c1, .slice A2 n2 c2, .int .i64 cmd] 30))
    rw [World.size_alloc] at hm0
    generalize (w1.alloc (.cells #[.int .i64 code, .string text, .slice A1 n1 c1, .slice A2 n2 c2, .int .i64 cmd] 30)).alloc (.map #[] 0) = w3 at *
    go_loopw [26] (fun i wr => ∃ k : Nat, k ≤ n2 ∧ i = .int .i64 k ∧ MapIs Tryz.prog 9 wr (w1.heap.size + 1) k (setL (looks.take k)) ∧ Below w1.heap.size w1 wr) (fun i _ => n2 - (intOf i).toNat)
    case atStart => exact ⟨0, Nat.zero_le _, rfl, hm0, hb13⟩
    case round =>
      clear hm0 hb13
      obtain ⟨k, hk, rfl, hmap, hbel⟩ := hrel
      have hzr := hbel.size
      by_cases hlt : k < n2
      · obtain ⟨b, o, x, rfl, hb, hx, hs1, hs2, c0, c1, c2⟩ := (hl2.keep (keep_lt hbel)).look hlt
        have hkI : (k : Int) < (n2 : Int) := by omega
        have HM := Lib.hid (setL_more hx)
        have hbx := fr_alloc hbel (.cells #[.string x.path, .string x.digest, .bool x.run] 38)
        have hmx := hmap.alloc (.cells #[.string x.path, .string x.digest, .bool x.run] 38)
        clear hx hmap
        go_wp2_with (at_mapUpdate; refine wpList_mapUpdate_is _ rfl _ _ _ 150 rfl Tryz.underlying9 map_bool_under rfl hmx (by unfold maxLen; omega) x.path hs1 (.bool true) rfl rfl ?_; intro w5 hm5 hg5)
        rw [HM.out] at hm5
        have hb5 := hbx.grown hg5 hbx.size (fun j hj => by cases hj; exact Nat.le_succ _)
        clear hg5
        go_wp2
        go_roundw
        case rel => exact ⟨k + 1, by omega, by go_num, hm5, hb5⟩
        case measure => simp [intOf]; omega
      · obtain rfl : k = n2 := by omega
        rw [List.take_of_length_le (by omega)] at hmap
        have hbw := fr_call hb2 hbel
        have HO := Lib.hid (blob_Own L nl cl F wr (Lt wr.heap.size) (fun _ h => h) (HS.out wr hbw) (by omega) fun x hx => by have := (HFs.out x hx).2; omega)
        clear hbel
        go_wp2_with fail
        refine HO.out.mono ?_
        rintro e w5 hpost
        unfold CopyPost at hpost
        obtain ⟨A3, c3, rfl, h31, h32, hs3, hb3⟩ := hpost
        have hb05 := fr_call hbw hb3
        have hs5 := hs3.more (S' := Lt w5.heap.size) fun k hk => hk.2
        have hm5 := hmap.call hb3
        have h0 : Two w5 w5.heap.size (.slice none 0 0) (.slice none 0 0) [] [] := ⟨RowK.nil.more (fun _ h => h.elim) fun _ h => h, RowK.nil.more (fun _ h => h.elim) fun _ h => h, fun g h => by cases h⟩
        clear HO hb3 hs3 hmap hb2 hbw
        go_wp2
        go_loopw [4, 5, 37] (fun v1 v2 i wr => ∃ k : Nat, k ≤ nl ∧ i = .int .i64 k ∧ Two wr w5.heap.size v1 v2 ((F.take k).filter fun x => lookedS looks x.path) ((F.take k).filter fun x => !lookedS looks x.path) ∧ Below w5.heap.size w5 wr) (fun _ _ i _ => nl - (intOf i).toNat)
        case atStart => exact ⟨0, Nat.zero_le _, rfl, h0, Below.refl _ _⟩
        case round =>
          clear h0
          obtain ⟨k, hk, rfl, htwo, hbel⟩ := hrel
          have hzr := hbel.size
          by_cases hlt : k < nl
          · obtain ⟨b, o, x, A', n'', c'', rfl, hb, hx, hs1, hnc, hcm, hsl', c0, c1, c2⟩ := (hs5.keep (keep_lt hbel)).file hlt
            have hkI : (k : Int) < (nl : Int) := by omega
            have hbx := fr_alloc hbel (.cells #[.string x.path, .bool x.run, .slice A' n'' c''] 50)
            have hb1x := fr_alloc (fr_refl wr) (.cells #[.string x.path, .bool x.run, .slice A' n'' c''] 50)
            have hb2x := fr_alloc hb1x (.cells #[.string x.path, .bool x.run, .slice A' n'' c''] 50)
            have hlk := setL_look (hm5.call hbx) hs1
            have ht2 := htwo.call hb2x
            have hrepx : Rep.rep ((wr.alloc (.cells #[.string x.path, .bool x.run, .slice A' n'' c''] 50)).alloc (.cells #[.string x.path, .bool x.run, .slice A' n'' c''] 50)) (Lt w5.heap.size) x [.string x.path, .bool x.run, .slice A' n'' c''] := ⟨hs1, A', n'', c'', rfl, hnc, hcm, hsl'.keep fun j hj => hb2x.block j (Nat.lt_of_lt_of_le hj hzr)⟩
            have hnew : ∀ (j : Nat) u, ([.string x.path, .bool x.run, .slice A' n'' c''] : List Value)[j]? = some u → ((wr.alloc (.cells #[.string x.path, .bool x.run, .slice A' n'' c''] 50)).alloc (.cells #[.string x.path, .bool x.run, .slice A' n'' c''] 50)).cell? ((⟨wr.heap.size + 1, 0, none⟩ : Addr).add j) = some u := fun j u hu => by
              have := new_cells (wr.alloc (.cells #[.string x.path, .bool x.run, .slice A' n'' c''] 50)) #[.string x.path, .bool x.run, .slice A' n'' c''] 50 j u hu
              rwa [World.size_alloc] at this
            have hbxx := fr_alloc hbx (.cells #[.string x.path, .bool x.run, .slice A' n'' c''] 50)
            have hl1 : ((F.take k).filter fun x => lookedS looks x.path).length ≤ nl := Nat.le_trans (List.length_filter_le _ _) (by rw [List.length_take]; omega)
            have hl2 : ((F.take k).filter fun x => !lookedS looks x.path).length ≤ nl := Nat.le_trans (List.length_filter_le _ _) (by rw [List.length_take]; omega)
            have HN := Lib.hid hnew
            have HT1 := Lib.hid (filter_at (p := fun x => lookedS looks x.path) hx)
            have HT2 := Lib.hid (filter_at (p := fun x => !lookedS looks x.path) hx)
            have HR := Lib.hid hrepx
            have ht1 := htwo.call hb1x
            clear hx hsl' hrepx hnew htwo hb
            generalize ((F.take k).filter fun x => lookedS looks x.path) = l1 at *
            generalize ((F.take k).filter fun x => !lookedS looks x.path) = l2 at *
            cases hq : lookedS looks x.path
            · rw [hq] at hlk
              obtain ⟨_, rows, hrows, hown, hrep⟩ := id ht2.r2
              have HP := Lib.hid hrep
              have HOw := Lib.hid hown
              clear hown hrep
              go_wp2_with (at_builtin; refine wpList_append_lies _ rfl _ _ 27 rfl w5.heap.size 50 i0 _ 3 48 Tryz.underlying27 hi0 hz0 hz1 hz2 rfl (by decide) _ l2.length _ rfl HOw.out ⟨wr.heap.size + 1, 0, none⟩ 1 1 [.string x.path, .bool x.run, .slice A' n'' c''] rfl rfl HN.out (three_ones rfl rfl rfl) (by decide) (by unfold maxLen; omega) (by omega) hbxx.size _ rfl ?_)
              intro g' cap w9 hown' hgrow hat hlt'
              have ht9 := (ht2.swap.more hrows HP.out HR.out hgrow hown' (by simpa using hat)).swap
              have hb9 := hbxx.grown hgrow hbxx.size fun j hj => (ht2.r2.kind j hj).1
              have e1 := HT1.out
              have e2 := HT2.out
              simp only [hq, Bool.not_false, if_true, if_false, Bool.false_eq_true, List.append_nil] at e1 e2
              rw [← e2, ← e1] at ht9
              have H9 := Lib.hid ht9
              clear e1 e2 ht9 hown' hgrow hat
              go_wp2
              go_roundw
              case rel => exact ⟨k + 1, by omega, by go_num, H9.out, hb9⟩
              case measure => simp [intOf]; omega
            · rw [hq] at hlk
              obtain ⟨_, rows, hrows, hown, hrep⟩ := id ht2.r1
              have HP := Lib.hid hrep
              have HOw := Lib.hid hown
              clear hown hrep
              go_wp2_with (at_builtin; refine wpList_append_lies _ rfl _ _ 27 rfl w5.heap.size 50 i0 _ 3 48 Tryz.underlying27 hi0 hz0 hz1 hz2 rfl (by decide) _ l1.length _ rfl HOw.out ⟨wr.heap.size + 1, 0, none⟩ 1 1 [.string x.path, .bool x.run, .slice A' n'' c''] rfl rfl HN.out (three_ones rfl rfl rfl) (by decide) (by unfold maxLen; omega) (by omega) hbxx.size _ rfl ?_)
              intro g' cap w9 hown' hgrow hat hlt'
              have ht9 := ht2.more hrows HP.out HR.out hgrow hown' (by simpa using hat)
              have hb9 := hbxx.grown hgrow hbxx.size fun j hj => (ht2.r1.kind j hj).1
              have e1 := HT1.out
              have e2 := HT2.out
              simp only [hq, Bool.not_true, if_true, if_false, Bool.false_eq_true, List.append_nil] at e1 e2
              rw [← e2, ← e1] at ht9
              have H9 := Lib.hid ht9
              clear e1 e2 ht9 hown' hgrow hat
              go_wp2
              go_roundw
              case rel => exact ⟨k + 1, by omega, by go_num, H9.out, hb9⟩
              case measure => simp [intOf]; omega
          · obtain rfl : k = nl := by omega
            rw [List.take_of_length_le (by rw [HLn.out]; exact Nat.le_refl _)] at htwo
            obtain ⟨A8, c8, rfl, _, _, s8⟩ := htwo.r1.sl
            obtain ⟨A9, c9, rfl, _, _, s9⟩ := htwo.r2.sl
            have H8 := Lib.hid s8
            have H9 := Lib.hid s9
            clear htwo s8 s9
            go_wp2
            go_ret3
            exact ⟨A8, _, c8, A9, _, c9, rfl, H8.out, H9.out, fr_call hb05 hbel⟩
end Go.Proofs.Sm

namespace Go.Proofs.Sm
open Go.RowKit Go.Maps

def RedPost (a : ActionV) (F : List FileV) (w : World) (e : Ending) (w' : World) : Prop :=
  ∃ A1 n1 c1, e = .returned (.tuple #[.slice A1 n1 c1, .int .i64 (bothErr a F)]) ∧ Sl w' (Lt w'.heap.size) A1 n1 (redS a F) ∧ Below w.heap.size w w'
def UnrPost (a : ActionV) (F : List FileV) (w : World) (e : Ending) (w' : World) : Prop :=
  ∃ A1 n1 c1, e = .returned (.tuple #[.slice A1 n1 c1, .int .i64 (bothErr a F)]) ∧ Sl w' (Lt w'.heap.size) A1 n1 ((unrS a F).map FileV.path) ∧ Below w.heap.size w w'
set_option maxHeartbeats 1000000 in
set_option maxRecDepth 100000 in
theorem act_Reduced (a : ActionV) (A : Option Addr) (n n' : Nat) (B : Option Addr) (m m' : Nat) (C : Option Addr) (p p' : Nat) (D : Option Addr) (q q' : Nat) (L : Option Addr) (nl cl : Nat) (F : List FileV) (w : World) (hE : Env2 w) (ha : ActIs w a A n B m C p D q) (hsl : Sl w (Lt w.heap.size) L nl F) : Calls Tryz.prog 24 #[actVal a A n n' B m m' C p p' D q q', .slice L nl cl] w (RedPost a F w) := by
  have hba := fr_alloc (fr_refl w) (.cells #[.string a.tool, .slice A n n', .slice B m m', .slice C p p', .slice D q q', .int .i64 a.time] 26)
  have HX := Lib.hid (act_split a A n n' B m m' C p p' D q q' L nl cl F _ (hE.then_ hba) (ha.then_ hba) (sl_call hsl hba (Nat.le_refl _)))
  unfold actVal at *
  unfold SplitPost at HX
  unfold RedPost
  clear hE ha hsl
  generalize bothErr a F = z at *
  go_enter Tryz.func24, Tryz.ntmps24
  go_wp2_with fail
  refine HX.out.mono ?_
  rintro e w1 ⟨A1, n1, c1, A2, n2, c2, rfl, s1, s2, b1⟩
  have HS := Lib.hid s1
  have hb2 := fr_box (fr_refl w) b1
  clear s1 s2 HX
  go_wp2
  go_ret2
  exact ⟨A1, n1, c1, rfl, HS.out, hb2⟩
theorem str_info2 : (Tryz.prog.info? 9).map (fun i => (i.zero, i.size, i.bytes)) = some (some (.string ⟨#[]⟩), 1, 16) := by kernel_rfl
theorem str_ones (x : ByteArray) : ∀ u ∈ ([.string x] : List Value), u.oneCell' = true := by
  intro u hu
  simp only [List.mem_cons, List.mem_nil_iff, or_false] at hu
  subst hu; rfl
theorem unr_few {a : ActionV} {F : List FileV} : (unrS a F).length ≤ 1000 := by
  unfold unrS
  split
  · rename_i h
    exact Nat.le_trans (List.length_filter_le _ _) (checkFiles_len (both_ok h).2.1)
  · exact Nat.zero_le _
set_option maxHeartbeats 1000000 in
set_option maxRecDepth 100000 in
theorem act_Unread (a : ActionV) (A : Option Addr) (n n' : Nat) (B : Option Addr) (m m' : Nat) (C : Option Addr) (p p' : Nat) (D : Option Addr) (q q' : Nat) (L : Option Addr) (nl cl : Nat) (F : List FileV) (w : World) (hE : Env2 w) (ha : ActIs w a A n B m C p D q) (hsl : Sl w (Lt w.heap.size) L nl F) : Calls Tryz.prog 25 #[actVal a A n n' B m m' C p p' D q q', .slice L nl cl] w (UnrPost a F w) := by
  have hba := fr_alloc (fr_refl w) (.cells #[.string a.tool, .slice A n n', .slice B m m', .slice C p p', .slice D q q', .int .i64 a.time] 26)
  have HX := Lib.hid (act_split a A n n' B m m' C p p' D q q' L nl cl F _ (hE.then_ hba) (ha.then_ hba) (sl_call hsl hba (Nat.le_refl _)))
  have hfew := unr_few (a := a) (F := F)
  obtain ⟨i0, hi0, hz0, hz1, hz2⟩ := info_parts str_info2
  unfold actVal at *
  unfold SplitPost at HX
  unfold UnrPost
  clear hE ha hsl
  generalize bothErr a F = z at *
  generalize unrS a F = U at *
  go_enter Tryz.func25, Tryz.ntmps25
  go_wp2_with fail
  refine HX.out.mono ?_
  rintro e w1 ⟨A1, n1, c1, A2, n2, c2, rfl, s1, s2, b1⟩
  have hb2 := fr_box (fr_refl w) b1
  have hn2 := s2.1
  rw [hn2] at hfew
  have HN := Lib.hid hn2
  have hm2 : n2 ≤ 9223372036854775807 := by omega
  clear s1 HX hn2
  go_wp2
  go_loopw [9, 21] (fun v i wr => ∃ k : Nat, k ≤ n2 ∧ i = .int .i64 k ∧ RowK wr w1.heap.size 9 (fun _ => False) v ((U.take k).map FileV.path) ∧ Below w1.heap.size w1 wr) (fun _ i _ => n2 - (intOf i).toNat)
  case atStart => exact ⟨0, Nat.zero_le _, rfl, RowK.nil, Below.refl _ _⟩
  case round =>
    obtain ⟨k, hk, rfl, hrow, hbel⟩ := hrel
    have hzr := hbel.size
    by_cases hlt : k < n2
    · obtain ⟨b, o, x, A', n'', c'', rfl, hb, hx, hs1, hnc, hcm, hsl', c0, c1', c2'⟩ := (s2.keep (keep_lt hbel)).file hlt
      have hkI : (k : Int) < (n2 : Int) := by omega
      have hbx := fr_alloc hbel (.cells #[.string x.path, .bool x.run, .slice A' n'' c''] 50)
      have hbxx := fr_alloc hbx (.cells #[.string x.path] 9)
      have hr2 := hrow.call (fr_alloc (fr_alloc (fr_refl wr) (.cells #[.string x.path, .bool x.run, .slice A' n'' c''] 50)) (.cells #[.string x.path] 9))
      have hlen : ((U.take k).map FileV.path).length = k := by rw [List.length_map, List.length_take]; have := HN.out; omega
      have HT := Lib.hid (show (U.take (k + 1)).map FileV.path = (U.take k).map FileV.path ++ [x.path] by rw [List.take_add_one, hx, List.map_append]; rfl)
      have hnew : ∀ (j : Nat) u, ([.string x.path] : List Value)[j]? = some u → ((wr.alloc (.cells #[.string x.path, .bool x.run, .slice A' n'' c''] 50)).alloc (.cells #[.string x.path] 9)).cell? ((⟨wr.heap.size + 1, 0, none⟩ : Addr).add j) = some u := fun j u hu => by
        have := new_cells (wr.alloc (.cells #[.string x.path, .bool x.run, .slice A' n'' c''] 50)) #[.string x.path] 9 j u hu
        rwa [World.size_alloc] at this
      have HNw := Lib.hid hnew
      obtain ⟨_, rows, hrows, hown, hrep⟩ := id hr2
      rw [hlen] at hown
      have HP := Lib.hid hrep
      have HOw := Lib.hid hown
      have HK := Lib.hid (fun j hj => (hrow.kind j hj).1)
      clear hx hsl' hnew hown hrep hrow hb hr2
      go_wp2_with (at_builtin; refine wpList_append_lies _ rfl _ _ 24 rfl w1.heap.size 9 i0 _ 1 16 Tryz.underlying24 hi0 hz0 hz1 hz2 rfl (by decide) _ k _ rfl HOw.out ⟨wr.heap.size + 1, 0, none⟩ 1 1 [.string x.path] rfl rfl HNw.out (str_ones x.path) (by decide) (by unfold maxLen; omega) (by omega) hbxx.size _ rfl ?_)
      intro g' cap w9 hown' hgrow hat hlt'
      have hr9 := RowK.append (x := x.path) (r := [.string x.path]) (l := (U.take k).map FileV.path) (fun k hh => hh.elim) hrows HP.out ⟨rfl, hs1⟩ (fun _ _ hh => hh) hgrow (by rw [hlen]; exact hown')
      rw [← HT.out] at hr9
      have hb9 := hbxx.grown hgrow hbxx.size HK.out
      have HR9 := Lib.hid hr9
      clear hown' hgrow hat hr9
      go_wp2
      go_roundw
      case rel => exact ⟨k + 1, by omega, by go_num, HR9.out, hb9⟩
      case measure => simp [intOf]; omega
    · obtain rfl : k = n2 := by omega
      rw [List.take_of_length_le (by rw [HN.out]; exact Nat.le_refl _)] at hrow
      obtain ⟨A8, c8, rfl, _, _, s8⟩ := hrow.sl
      have H8 := Lib.hid s8
      clear hrow s8
      go_wp2
      go_ret2
      exact ⟨A8, _, c8, rfl, H8.out, fr_call hb2 hbel⟩
end Go.Proofs.Sm

namespace Go.Proofs.Sm
open Go.RowKit

theorem word0_nil (v : List UInt8) (hv : v ≠ []) : ((wordAt [] 0).data.toList == v) = false := by
  cases v with
  | nil => exact absurd rfl hv
  | cons x v => rfl
theorem word0_at {c : List ByteArray} {y : ByteArray} (h : c[0]? = some y) (v : List UInt8) : ((wordAt c 0).data.toList == v) = (y.toList == v) := by
  rw [wordAt, h, ByteArray.toList_eq]; rfl
set_option maxHeartbeats 1000000 in
set_option maxRecDepth 100000 in
theorem law5_lists (a : ActionV) (A : Option Addr) (n n' : Nat) (B : Option Addr) (m m' : Nat) (C : Option Addr) (p p' : Nat) (D : Option Addr) (q q' : Nat) (w : World) (ha : ActIs w a A n B m C p D q) :
    Calls Tryz.prog 16 #[actVal a A n n' B m m' C p p' D q q'] w fun e w' => e = .returned (.bool (a.commands.any isList)) ∧ Below w.heap.size w w' := by
  have hn : n ≤ 9223372036854775807 := ha.commands.2.1
  have hb0 := fr_alloc (fr_refl w) (.cells #[.string a.tool, .slice A n n', .slice B m m', .slice C p p', .slice D q q', .int .i64 a.time] 26)
  have hc1 : (w.alloc (.cells #[.string a.tool, .slice A n n', .slice B m m', .slice C p p', .slice D q q', .int .i64 a.time] 26)).cell? ⟨w.heap.size, 1, none⟩ = some (.slice A n n') := by simp [go_sem]
  have hsl := ha.commands.keep (w' := w.alloc (.cells #[.string a.tool, .slice A n n', .slice B m m', .slice C p p', .slice D q q', .int .i64 a.time] 26)) fun k hk => hb0.block k hk
  have HL := Lib.hid ha.commands.1
  clear ha
  unfold actVal at *
  go_enter Tryz.func16, Tryz.ntmps16
  go_wp2
  go_loop [3] (fun i => ∃ k : Nat, k ≤ n ∧ i = .int .i64 k ∧ (a.commands.take k).any isList = false) (fun i => n - (intOf i).toNat)
  case atStart => exact ⟨0, Nat.zero_le _, rfl, rfl⟩
  case round =>
    obtain ⟨k, hk, rfl, hall⟩ := hrel
    have H := Lib.hid hall; clear hall
    by_cases hlt : k < n
    · obtain ⟨b, o, x, A', n', c', rfl, hb, hx, h1, h2, hs, c0⟩ := hsl.row hlt
      have Hx := Lib.hid hx; clear hx
      have hkI : (k : Int) < (n : Int) := by omega
      rcases Nat.eq_zero_or_pos n' with h0 | h0
      · subst h0
        have hx0 : x = [] := List.eq_nil_of_length_eq_zero hs.1
        have HS := Lib.hid (any_step (p := isList) Hx.out H.out (by rw [hx0]; exact word0_nil _ (by decide)))
        clear hx0 hs
        go_wp2
        go_round
        case rel => exact ⟨k + 1, by omega, by go_num, HS.out⟩
        case measure => simp [intOf]; omega
      · obtain ⟨b2, o2, y, rfl, hb2, hy, hys, d0⟩ := hs.str h0
        have hw := word0_at hy [108, 105, 115, 116]
        have h0I : (0 : Int) < (n' : Int) := by omega
        rw [Nat.add_zero] at d0
        clear hy hs
        cases hq : (y.toList == [108, 105, 115, 116])
        · have HS := Lib.hid (any_step (p := isList) Hx.out H.out (hw.trans hq))
          clear hw
          go_wp2
          go_round
          case rel => exact ⟨k + 1, by omega, by go_num, HS.out⟩
          case measure => simp [intOf]; omega
        · have HS := Lib.hid (show a.commands.any isList = true from List.any_eq_true.2 ⟨x, List.mem_of_getElem? Hx.out, hw.trans hq⟩)
          clear hw
          go_wp2
          go_ret
          exact ⟨ret_bool HS.out.symm, hb0⟩
    · have HS := Lib.hid (any_end (by rw [HL.out]; omega) H.out)
      go_wp2
      go_ret
      exact ⟨ret_bool HS.out.symm, hb0⟩
set_option maxHeartbeats 1000000 in
set_option maxRecDepth 100000 in
theorem law5_expands (a : ActionV) (A : Option Addr) (n n' : Nat) (B : Option Addr) (m m' : Nat) (C : Option Addr) (p p' : Nat) (D : Option Addr) (q q' : Nat) (w : World) (ha : ActIs w a A n B m C p D q) :
    Calls Tryz.prog 20 #[actVal a A n n' B m m' C p p' D q q'] w fun e w' => e = .returned (.bool (a.commands.any isExpand)) ∧ Below w.heap.size w w' := by
  have hn : n ≤ 9223372036854775807 := ha.commands.2.1
  have hb0 := fr_alloc (fr_refl w) (.cells #[.string a.tool, .slice A n n', .slice B m m', .slice C p p', .slice D q q', .int .i64 a.time] 26)
  have hc1 : (w.alloc (.cells #[.string a.tool, .slice A n n', .slice B m m', .slice C p p', .slice D q q', .int .i64 a.time] 26)).cell? ⟨w.heap.size, 1, none⟩ = some (.slice A n n') := by simp [go_sem]
  have hsl := ha.commands.keep (w' := w.alloc (.cells #[.string a.tool, .slice A n n', .slice B m m', .slice C p p', .slice D q q', .int .i64 a.time] 26)) fun k hk => hb0.block k hk
  have HL := Lib.hid ha.commands.1
  clear ha
  unfold actVal at *
  go_enter Tryz.func20, Tryz.ntmps20
  go_wp2
  go_loop [3] (fun i => ∃ k : Nat, k ≤ n ∧ i = .int .i64 k ∧ (a.commands.take k).any isExpand = false) (fun i => n - (intOf i).toNat)
  case atStart => exact ⟨0, Nat.zero_le _, rfl, rfl⟩
  case round =>
    obtain ⟨k, hk, rfl, hall⟩ := hrel
    have H := Lib.hid hall; clear hall
    by_cases hlt : k < n
    · obtain ⟨b, o, x, A', n', c', rfl, hb, hx, h1, h2, hs, c0⟩ := hsl.row hlt
      have Hx := Lib.hid hx; clear hx
      have hkI : (k : Int) < (n : Int) := by omega
      rcases Nat.eq_zero_or_pos n' with h0 | h0
      · subst h0
        have hx0 : x = [] := List.eq_nil_of_length_eq_zero hs.1
        have HS := Lib.hid (any_step (p := isExpand) Hx.out H.out (by rw [hx0]; exact word0_nil _ (by decide)))
        clear hx0 hs
        go_wp2
        go_round
        case rel => exact ⟨k + 1, by omega, by go_num, HS.out⟩
        case measure => simp [intOf]; omega
      · obtain ⟨b2, o2, y, rfl, hb2, hy, hys, d0⟩ := hs.str h0
        have hw := word0_at hy [101, 120, 112, 97, 110, 100]
        have h0I : (0 : Int) < (n' : Int) := by omega
        rw [Nat.add_zero] at d0
        clear hy hs
        cases hq : (y.toList == [101, 120, 112, 97, 110, 100])
        · have HS := Lib.hid (any_step (p := isExpand) Hx.out H.out (hw.trans hq))
          clear hw
          go_wp2
          go_round
          case rel => exact ⟨k + 1, by omega, by go_num, HS.out⟩
          case measure => simp [intOf]; omega
        · have HS := Lib.hid (show a.commands.any isExpand = true from List.any_eq_true.2 ⟨x, List.mem_of_getElem? Hx.out, hw.trans hq⟩)
          clear hw
          go_wp2
          go_ret
          exact ⟨ret_bool HS.out.symm, hb0⟩
    · have HS := Lib.hid (any_end (by rw [HL.out]; omega) H.out)
      go_wp2
      go_ret
      exact ⟨ret_bool HS.out.symm, hb0⟩
/-- is a file at a path -/
theorem law5_at_is (x : FileV) (A : Option Addr) (n c : Nat) (s : ByteArray) (w : World) : Calls Tryz.prog 27 #[.string s, .agg #[.string x.path, .bool x.run, .slice A n c]] w fun e w' => e = .returned (.bool (eqp s x)) ∧ Below w.heap.size w w' := by
  have HE := Lib.hid (show eqp s x = (x.path.toList == s.toList) from rfl)
  go_enter Tryz.func27, Tryz.ntmps27
  go_wp2
  go_ret
  exact ⟨ret_bool HE.out.symm, (by repeat (first | exact fr_refl _ | refine fr_call ?_ (by assumption) | refine fr_alloc ?_ _ | refine fr_set ?_ (by simp) _ | refine Below.drew ?_ | refine below_drewN ?_ _))⟩
theorem find_first {α : Type} {l : List α} {p : α → Bool} {k : Nat} {x : α} (h : (l.take k).any p = false) (hx : l[k]? = some x) (hp : p x = true) : l.find? p = some x := by
  have e : l = l.take k ++ x :: l.drop (k + 1) := by rw [← drop_at hx, List.take_append_drop]
  have h1 : (l.take k).find? p = none := by
    rw [List.find?_eq_none]
    intro y hy
    exact List.any_eq_false.1 h y hy
  rw [e, List.find?_append, List.find?_cons, hp, h1]
  rfl
theorem find_nowhere {α : Type} {l : List α} {p : α → Bool} (h : l.any p = false) : l.find? p = none := by
  rw [List.find?_eq_none]
  intro y hy
  exact List.any_eq_false.1 h y hy
def IdxPost (p : FileV → Bool) (l : List FileV) (w : World) (e : Ending) (w' : World) : Prop :=
  (e = .returned (.int .i64 (-1)) ∧ l.find? p = none ∨ ∃ (k : Nat) (x : FileV), e = .returned (.int .i64 (k : Int)) ∧ l[k]? = some x ∧ l.find? p = some x) ∧ Below w.heap.size w w'
set_option maxHeartbeats 1000000 in
set_option maxRecDepth 100000 in
theorem indexFunc_file (g : Nat) (eg : ∀ args w, (callFunc g args).run Tryz.prog w = .ok (.enter g args) w) (v1 : Value) (p : FileV → Bool) (A : Option Addr) (n c : Nat) (l : List FileV) (w : World) (hsl : Sl w (Lt w.heap.size) A n l)
    (hp : ∀ (W : World) (x : FileV) (A1 : Option Addr) (n1 c1 : Nat), Calls Tryz.prog g #[v1, .agg #[.string x.path, .bool x.run, .slice A1 n1 c1]] W fun e w' => e = .returned (.bool (p x)) ∧ Below W.heap.size W w') :
    Calls Tryz.prog 48 #[.slice A n c, .func (.func g) #[v1] #[]] w (IdxPost p l w) := by
  have hm : n ≤ 9223372036854775807 := hsl.2.1
  have HP := Lib.hid hp; clear hp
  have HL := Lib.hid hsl.1
  go_enter Tryz.func48, Tryz.ntmps48
  go_wp2
  go_loopw [8] (fun i wr => ∃ k : Nat, k ≤ n ∧ i = .int .i64 k ∧ (l.take k).any p = false ∧ Below w.heap.size w wr) (fun i _ => n - (intOf i).toNat)
  case atStart => exact ⟨0, Nat.zero_le _, rfl, rfl, Below.refl _ _⟩
  case round =>
    obtain ⟨k, hk, rfl, hall, hbel⟩ := hrel
    have H := Lib.hid hall; clear hall
    by_cases hlt : k < n
    · have hkI : (k : Int) < (n : Int) := by omega
      obtain ⟨b, o, x, A1, n1, c1, rfl, hb, hx, hxp, h1, h2, hs, c0, c1', c2⟩ := (hsl.keep (keep_lt hbel)).file hlt
      have HX := Lib.hid hx
      have HC := Lib.hid (HP.out wr x A1 n1 c1)
      clear hx hs
      cases hq : p x
      · have HS := Lib.hid (any_step (p := p) HX.out H.out hq)
        go_wp2_with fail
        refine HC.out.mono ?_
        rintro e w1 ⟨rfl, hb1⟩
        rw [hq]
        have hb2 := fr_call hbel hb1
        go_wp2
        go_roundw
        case rel => exact ⟨k + 1, by omega, by go_num, HS.out, hb2⟩
        case measure => simp [intOf]; omega
      · have HQ := Lib.hid hq
        go_wp2_with fail
        refine HC.out.mono ?_
        rintro e w1 ⟨rfl, hb1⟩
        rw [hq]
        go_wp2
        go_ret
        exact ⟨.inr ⟨k, x, rfl, HX.out, find_first H.out HX.out HQ.out⟩, fr_call hbel hb1⟩
    · have HS := Lib.hid (any_end (by rw [HL.out]; omega) H.out)
      go_wp2
      go_ret
      exact ⟨.inl ⟨rfl, find_nowhere HS.out⟩, hbel⟩
set_option maxRecDepth 100000 in
theorem containsFunc_file (g : Nat) (eg : ∀ args w, (callFunc g args).run Tryz.prog w = .ok (.enter g args) w) (v1 : Value) (p : FileV → Bool) (A : Option Addr) (n c : Nat) (l : List FileV) (w : World) (hsl : Sl w (Lt w.heap.size) A n l)
    (hp : ∀ (W : World) (x : FileV) (A1 : Option Addr) (n1 c1 : Nat), Calls Tryz.prog g #[v1, .agg #[.string x.path, .bool x.run, .slice A1 n1 c1]] W fun e w' => e = .returned (.bool (p x)) ∧ Below W.heap.size W w') :
    Calls Tryz.prog 26 #[.slice A n c, .func (.func g) #[v1] #[]] w fun e w' => e = .returned (.bool (l.any p)) ∧ Below w.heap.size w w' := by
  have HC := Lib.hid (indexFunc_file g eg v1 p A n c l w hsl hp)
  clear hp eg
  go_enter Tryz.func26, Tryz.ntmps26
  go_wp2_with fail
  refine HC.out.mono ?_
  rintro e w1 ⟨h | ⟨k, x, rfl, hx, hf⟩, hb1⟩
  · obtain ⟨rfl, hf⟩ := h
    have HF := Lib.hid (show l.any p = false by rw [List.any_eq_false]; exact List.find?_eq_none.1 hf)
    clear hf
    go_wp2
    go_ret
    exact ⟨ret_bool HF.out.symm, hb1⟩
  · have HF := Lib.hid (show l.any p = true from List.any_eq_true.2 ⟨x, List.mem_of_getElem? hx, by have := List.find?_some hf; exact this⟩)
    have hk0 : (0 : Int) ≤ (k : Int) := by omega
    clear hf hx
    go_wp2
    go_ret
    exact ⟨ret_bool HF.out.symm, hb1⟩
end Go.Proofs.Sm

namespace Go.Proofs.Sm
open Go.RowKit

theorem bytes_Equal (A A' : Option Addr) (n n' c c' : Nat) (l : List UInt8) (w : World) (S : Nat → Prop) (h : Sl w S A n l) (h' : Sl w S A' n' l) :
    Calls Tryz.prog 49 #[.slice A n c, .slice A' n' c'] w fun e w' => e = .returned (.bool true) ∧ w = w' := by
  have r1 := run_bytes_string (P := Tryz.prog) h 48 9 5 c Tryz.underlying48 Tryz.underlying5 Tryz.underlying9
  have r2 := run_bytes_string (P := Tryz.prog) h' 48 9 5 c' Tryz.underlying48 Tryz.underlying5 Tryz.underlying9
  generalize (⟨l.toArray⟩ : ByteArray) = s at r1 r2
  go_enter Tryz.func49, Tryz.ntmps49
  go_wp2
  go_ret
  exact ⟨rfl, rfl⟩
set_option maxRecDepth 100000 in
theorem ref1_SameFile (x : FileV) (A A' : Option Addr) (n n' c c' : Nat) (w : World) (h : Sl w (Lt w.heap.size) A n x.bytes) (h' : Sl w (Lt w.heap.size) A' n' x.bytes) :
    Calls Tryz.prog 63 #[.agg #[.string x.path, .bool x.run, .slice A n c], .agg #[.string x.path, .bool x.run, .slice A' n' c']] w fun e w' => e = .returned (.bool true) ∧ Below w.heap.size w w' := by
  go_enter Tryz.func63, Tryz.ntmps63
  go_wp2_with fail
  have hb := fr_alloc (fr_alloc (fr_refl w) (.cells #[.string x.path, .bool x.run, .slice A n c] 50)) (.cells #[.string x.path, .bool x.run, .slice A' n' c'] 50)
  refine (bytes_Equal A A' n n' c c' x.bytes _ (Lt w.heap.size) (h.keep (keep_lt hb)) (h'.keep (keep_lt hb))).mono ?_
  rintro e w1 ⟨rfl, rfl⟩
  go_wp2
  go_ret
  exact ⟨rfl, hb⟩
set_option maxRecDepth 100000 in
theorem ref1_SameFiles (A A' : Option Addr) (n c c' : Nat) (l : List FileV) (w : World) (h : Sl w (Lt w.heap.size) A n l) (h' : Sl w (Lt w.heap.size) A' n l) :
    Calls Tryz.prog 35 #[.slice A n c, .slice A' n c'] w fun e w' => e = .returned (.bool true) ∧ Below w.heap.size w w' := by
  have hm : n ≤ 9223372036854775807 := h.2.1
  go_enter Tryz.func35, Tryz.ntmps35
  go_wp2
  go_loopw [5] (fun i wr => ∃ k : Nat, k ≤ n ∧ i = .int .i64 k ∧ Below w.heap.size w wr) (fun i _ => n - (intOf i).toNat)
  case atStart => exact ⟨0, Nat.zero_le _, rfl, fr_refl w⟩
  case round =>
    obtain ⟨k, hk, rfl, hbel⟩ := hrel
    by_cases hlt : k < n
    · obtain ⟨g1, o1, x1, A1, n1, c1, rfl, hb1, hx1, hp1, _, _, s1, p0, p1, p2⟩ := (h.keep (keep_lt hbel)).file hlt
      obtain ⟨g2, o2, x2, A2, n2, c2, rfl, hb2, hx2, hp2, _, _, s2, q0, q1, q2⟩ := (h'.keep (keep_lt hbel)).file hlt
      obtain rfl : x1 = x2 := by rw [hx1] at hx2; exact Option.some.inj hx2
      have hkI : (k : Int) < (n : Int) := by omega
      have hg1 : g1 < w.heap.size := hb1
      have hg2 : g2 < w.heap.size := hb2
      have HK := Lib.hid (show ∀ w', Below w.heap.size w w' → (Below w.heap.size w w' ∧ w'.cell? ⟨g1, o1 + k * 3, none⟩ = some (.string x1.path) ∧ w'.cell? ⟨g1, o1 + k * 3 + 1, none⟩ = some (.bool x1.run) ∧ w'.cell? ⟨g1, o1 + k * 3 + 2, none⟩ = some (.slice A1 n1 c1) ∧
          w'.cell? ⟨g2, o2 + k * 3, none⟩ = some (.string x1.path) ∧ w'.cell? ⟨g2, o2 + k * 3 + 1, none⟩ = some (.bool x1.run) ∧ w'.cell? ⟨g2, o2 + k * 3 + 2, none⟩ = some (.slice A2 n2 c2)) from fun w' hw => by
        have e1 : ∀ o, w'.cell? ⟨g1, o, none⟩ = _ := fun o => (hw.cell (p := ⟨g1, o, none⟩) hg1).trans (hbel.cell (p := ⟨g1, o, none⟩) hg1).symm
        have e2 : ∀ o, w'.cell? ⟨g2, o, none⟩ = _ := fun o => (hw.cell (p := ⟨g2, o, none⟩) hg2).trans (hbel.cell (p := ⟨g2, o, none⟩) hg2).symm
        exact ⟨hw, (e1 _).trans p0, (e1 _).trans p1, (e1 _).trans p2, (e2 _).trans q0, (e2 _).trans q1, (e2 _).trans q2⟩)
      have hs1 : ∀ w', Below w.heap.size w w' → Sl w' (Lt w'.heap.size) A1 n1 x1.bytes := fun w' hw => ((s1.keep (fun q hq => (hw.block q hq).trans (hbel.block q hq).symm)).more (lt_mono hw.size))
      have hs2 : ∀ w', Below w.heap.size w w' → Sl w' (Lt w'.heap.size) A2 n2 x1.bytes := fun w' hw => ((s2.keep (fun q hq => (hw.block q hq).trans (hbel.block q hq).symm)).more (lt_mono hw.size))
      have HC := Lib.hid (fun w' (hw : Below w.heap.size w w') => ref1_SameFile x1 A1 A2 n1 n2 c1 c2 w' (hs1 w' hw) (hs2 w' hw))
      clear hs1 hs2 hx1 hx2 p0 p1 p2 q0 q1 q2 s1 s2
      obtain ⟨_, p0, p1, p2, q0, q1, q2⟩ := HK.out _ hbel
      go_wp2
      go_region_held3 (fun w' => Below w.heap.size w w' ∧ w'.cell? ⟨g1, o1 + k * 3, none⟩ = some (.string x1.path) ∧ w'.cell? ⟨g1, o1 + k * 3 + 1, none⟩ = some (.bool x1.run) ∧ w'.cell? ⟨g1, o1 + k * 3 + 2, none⟩ = some (.slice A1 n1 c1) ∧
          w'.cell? ⟨g2, o2 + k * 3, none⟩ = some (.string x1.path) ∧ w'.cell? ⟨g2, o2 + k * 3 + 1, none⟩ = some (.bool x1.run) ∧ w'.cell? ⟨g2, o2 + k * 3 + 2, none⟩ = some (.slice A2 n2 c2))
        (first | assumption | exact HK.out _ hbel.drew | exact HK.out _ (fr_call (And.left (by assumption)) hbc))
        (first | (go_at_call 63; refine (HC.out _ (And.left (by assumption))).mono ?_; rintro e wc ⟨rfl, hbc⟩))
      have hb9 : Below w.heap.size w wc := And.left (by assumption)
      go_wp2
      go_roundw
      case rel => exact ⟨k + 1, by omega, by go_num, hb9⟩
      case measure => simp [intOf]; omega
    · go_wp2
      go_ret
      exact ⟨rfl, hbel⟩
set_option maxHeartbeats 1000000 in
set_option maxRecDepth 100000 in
theorem ref5_SameResult (r : ResultV) (A A' : Option Addr) (n n' c c' : Nat) (B B' : Option Addr) (m m' d d' : Nat) (w : World) (h : ResIs w r A n B m) (h' : ResIs w r A' n' B' m') :
    Calls Tryz.prog 18 #[resVal r A n c B m d, resVal r A' n' c' B' m' d'] w fun e w' => e = .returned (.bool true) ∧ Below w.heap.size w w' := by
  have hn : n' = n := by rw [← h'.files.1, ← h.files.1]
  subst hn
  have hs := sameLooksS_iff.2 (rfl : r.looks = r.looks)
  have HF := Lib.hid (fun w' (hb : Below w.heap.size w w') => ref1_SameFiles A A' n' c c' r.files w' (h.then_ hb).files (h'.then_ hb).files)
  have HL := Lib.hid (fun w' (hb : Below w.heap.size w w') => ref5_SameLooks B B' m m' d d' r.looks r.looks w' (h.then_ hb).looks (h'.then_ hb).looks)
  rw [hs] at HL
  unfold resVal
  have hb0 := fr_alloc (fr_alloc (fr_refl w) (.cells #[.int .i64 r.code, .string r.text, .slice A n' c, .slice B m d, .int .i64 r.command] 30)) (.cells #[.int .i64 r.code, .string r.text, .slice A' n' c', .slice B' m' d', .int .i64 r.command] 30)
  go_enter Tryz.func18, Tryz.ntmps18
  go_wp2_with fail
  refine (HF.out _ hb0).mono ?_
  rintro e w1 ⟨rfl, hb1⟩
  obtain ⟨hc1, hf1⟩ := bcell hb1
  have hz1 := hb1.size
  have hb2 := fr_call hb0 hb1
  have hsz : w.heap.size + 2 ≤ w1.heap.size := by simpa using hz1
  have e1 : w1.heap[w.heap.size]? = some (.cells #[.int .i64 r.code, .string r.text, .slice A n' c, .slice B m d, .int .i64 r.command] 30 (0, 0)) :=
    (hb1.block _ (by simp; omega)).trans (((fr_alloc (fr_refl (w.alloc _)) _).block w.heap.size (by simp)).trans (heap_alloc_new w _))
  have e2 : w1.heap[w.heap.size + 1]? = some (.cells #[.int .i64 r.code, .string r.text, .slice A' n' c', .slice B' m' d', .int .i64 r.command] 30 (0, 0)) := by
    have := heap_alloc_new (w.alloc (.cells #[.int .i64 r.code, .string r.text, .slice A n' c, .slice B m d, .int .i64 r.command] 30)) (.cells #[.int .i64 r.code, .string r.text, .slice A' n' c', .slice B' m' d', .int .i64 r.command] 30 (0, 0))
    rw [World.size_alloc] at this
    exact (hb1.block _ (by simp)).trans this
  have k3 : w1.cell? ⟨w.heap.size, 3, none⟩ = some (.slice B m d) := by rw [Lib.cell_of_heap e1]; rfl
  have k4 : w1.cell? ⟨w.heap.size, 4, none⟩ = some (.int .i64 r.command) := by rw [Lib.cell_of_heap e1]; rfl
  have j3 : w1.cell? ⟨w.heap.size + 1, 3, none⟩ = some (.slice B' m' d') := by rw [Lib.cell_of_heap e2]; rfl
  have j4 : w1.cell? ⟨w.heap.size + 1, 4, none⟩ = some (.int .i64 r.command) := by rw [Lib.cell_of_heap e2]; rfl
  clear e1 e2 hc1 hf1
  go_wp2_with fail
  refine (HL.out _ hb2).mono ?_
  rintro e w2 ⟨rfl, hb3⟩
  have k4' := (hb3.cell (p := ⟨w.heap.size, 4, none⟩) (show w.heap.size < _ by omega)).trans k4
  have j4' := (hb3.cell (p := ⟨w.heap.size + 1, 4, none⟩) (show w.heap.size + 1 < _ by omega)).trans j4
  go_wp2
  go_ret
  exact ⟨rfl, fr_call hb2 hb3⟩
end Go.Proofs.Sm

namespace Go.Proofs.Sm
open Go.RowKit

section
variable {F X : List FileV}
theorem hasPath_sub (h : ∀ x ∈ X, x ∈ F) {p : List UInt8} (hp : hasPath X p = true) : hasPath F p = true := by
  unfold hasPath at *
  obtain ⟨y, hy, he⟩ := List.any_eq_true.1 hp
  exact List.any_eq_true.2 ⟨y, h y hy, he⟩
theorem clash_sub (h : ∀ x ∈ X, x ∈ F) {p : ByteArray} : ∀ {n i : Nat}, clashFrom X p n i = true → clashFrom F p n i = true
  | 0, _, hc => by cases hc
  | n + 1, i, hc => by
    rw [clashFrom, Bool.or_eq_true, Bool.and_eq_true] at hc ⊢
    rcases hc with ⟨h1, h2⟩ | hc
    · exact .inl ⟨h1, hasPath_sub h h2⟩
    · exact .inr (clash_sub h hc)
theorem total_filter (p : FileV → Bool) : ∀ F : List FileV, totalS (F.filter p) ≤ totalS F
  | [] => Nat.le_refl _
  | x :: l => by
    have ih := total_filter p l
    rw [List.filter_cons]
    split
    · rw [total_cons, total_cons]; omega
    · rw [total_cons]; omega
/-- some of the files are right ones as well -/
theorem checkFiles_filter (p : FileV → Bool) (h : checkFilesS F = 0) : checkFilesS (F.filter p) = 0 := by
  obtain ⟨h1, h2, h3, h4⟩ := checkFiles_err h
  have hsub : ∀ x ∈ F.filter p, x ∈ F := fun x hx => (List.mem_filter.1 hx).1
  have hl := List.length_filter_le p F
  have ht := total_filter p F
  have he : filesErr none (F.filter p) = 0 := filesErr_ok (List.Pairwise.filter _ (files_by h)) (fun x hx => ⟨files_isP h x (hsub x hx), (files_sizes h x (hsub x hx)).2⟩) fun q hq => by cases hq
  have hc : (F.filter p).any (fun x => clashS (F.filter p) x.path) = false := by
    rw [List.any_eq_false] at h3 ⊢
    intro x hx hcl
    exact h3 x (hsub x hx) (clash_sub hsub hcl)
  rw [checkFilesS, if_neg (by omega), if_neg (by rw [he]; simp), if_neg (by rw [hc]; decide), if_neg (by omega)]
theorem both_filter {a : ActionV} (p : FileV → Bool) (h : bothErr a F = 0) : bothErr a (F.filter p) = 0 := by
  obtain ⟨h1, h2, h3⟩ := both_ok h
  have ht : touchesS a.outputs (F.filter p) = false := by
    unfold touchesS at *
    rw [List.any_eq_false] at h3 ⊢
    exact fun x hx => h3 x (List.mem_filter.1 hx).1
  rw [both_rest h1 (checkFiles_filter p h2), ht]; rfl
theorem looked_eq {l : List Look} {p q : ByteArray} (h : p.toList = q.toList) : lookedS l p = lookedS l q := by unfold lookedS; rw [h]
theorem in_red {a : ActionV} {x : FileV} (hx : x ∈ F) : (reducedS a F).any (eqp x.path) = lookedS (execS a F).looks x.path := by
  cases h : lookedS (execS a F).looks x.path
  · rw [List.any_eq_false]
    intro y hy he
    have h1 := (List.mem_filter.1 hy).2
    have h2 : y.path.toList = x.path.toList := by simpa [eqp] using he
    rw [looked_eq h2, h] at h1
    cases h1
  · exact List.any_eq_true.2 ⟨x, List.mem_filter.2 ⟨hx, h⟩, by simp [eqp]⟩
theorem in_unr {a : ActionV} {x : FileV} (hx : x ∈ F) : ((unreadS a F).map FileV.path).any (eqS x.path) = !lookedS (execS a F).looks x.path := by
  cases h : lookedS (execS a F).looks x.path
  · exact List.any_eq_true.2 ⟨x.path, List.mem_map.2 ⟨x, List.mem_filter.2 ⟨hx, by rw [h]; rfl⟩, rfl⟩, by simp [eqS]⟩
  · rw [Bool.not_true, List.any_eq_false]
    intro s hs he
    obtain ⟨y, hy, rfl⟩ := List.mem_map.1 hs
    have h1 := (List.mem_filter.1 hy).2
    have h2 : y.path.toList = x.path.toList := by simpa [eqS] using he
    rw [looked_eq h2, h] at h1
    cases h1
end
set_option maxHeartbeats 2000000 in
set_option maxRecDepth 100000 in
theorem law_reduced (a : ActionV) (A : Option Addr) (n n' : Nat) (B : Option Addr) (m m' : Nat) (C : Option Addr) (p p' : Nat) (D : Option Addr) (q q' : Nat) (L : Option Addr) (nl cl : Nat) (F : List FileV) (w : World) (hE : Env2 w) (ha : ActIs w a A n B m C p D q) (hF : Sl w (Lt w.heap.size) L nl F) :
    Calls Tryz.prog 7 #[actVal a A n n' B m m' C p p' D q q', .slice L nl cl] w fun e w' => e = .returned (.bool true) ∧ Below w.heap.size w w' := by
  have hba := fr_alloc (fr_refl w) (.cells #[.string a.tool, .slice A n n', .slice B m m', .slice C p p', .slice D q q', .int .i64 a.time] 26)
  have HA := Lib.hid (fun wx (hb : Below (w.alloc (.cells #[.string a.tool, .slice A n n', .slice B m m', .slice C p p', .slice D q q', .int .i64 a.time] 26)).heap.size (w.alloc (.cells #[.string a.tool, .slice A n n', .slice B m m', .slice C p p', .slice D q q', .int .i64 a.time] 26)) wx) => (act_box w a A n n' B m m' C p p' D q q').call hb)
  have HX := Lib.hid (act_Reduced a A n n' B m m' C p p' D q q' L nl cl F _ (hE.then_ hba) (ha.then_ hba) (sl_call hF hba (Nat.le_refl _)))
  unfold RedPost at HX
  rcases Decidable.em (¬ bothErr a F = 0) with hbad | hok
  · have hb0 : (bothErr a F == 0) = false := by simpa using hbad
    have hr : redS a F = [] := by rw [redS, if_neg hbad]
    rw [hr] at HX
    unfold actVal at *
    clear hbad ha hF hr
    generalize bothErr a F = z at *
    go_enter Tryz.func7, Tryz.ntmps7
    go_wp2_with fail
    refine HX.out.mono ?_
    rintro e w8 ⟨A1, n1, c1, rfl, s1, hb8⟩
    obtain rfl : n1 = 0 := s1.1.symm
    have hb9 := fr_box (fr_refl w) hb8
    clear s1
    go_wp2_with fail
    refine (law5_awake _ (hE.then_ hb9).toEnv).mono ?_
    rintro e wz ⟨rfl, hbz⟩
    go_wp2
    go_ret
    exact ⟨rfl, fr_call hb9 hbz⟩
  have hok : bothErr a F = 0 := Decidable.not_not.1 hok
  have hr : redS a F = reducedS a F := by rw [redS, if_pos hok]
  have hu : unrS a F = unreadS a F := by rw [unrS, if_pos hok]
  have HU := Lib.hid (fun w1 (hb : Below w.heap.size w w1) => act_Unread a A n n' B m m' C p p' D q q' L nl cl F w1 (hE.then_ hb) (ha.then_ hb) (sl_call hF hb (Nat.le_refl _)))
  unfold UnrPost at HU
  rw [hr, hok] at HX
  rw [hu, hok] at HU
  have HP := Lib.hid (fun w1 (hb : Below w.heap.size w w1) => exec_ok a A n n' B m m' C p p' D q q' L nl cl F w1 (hE.then_ hb) (ha.then_ hb) (sl_call hF hb (Nat.le_refl _)) hok)
  have HQ := Lib.hid (fun w1 (hb : Below w.heap.size w w1) A1 n1 c1 hs => exec_ok a A n n' B m m' C p p' D q q' A1 n1 c1 (reducedS a F) w1 (hE.then_ hb) (ha.then_ hb) hs (both_filter _ hok))
  have HL := Lib.hid (fun w1 (hb : Below w.heap.size w w1) => law5_lists a A n n' B m m' C p p' D q q' w1 (ha.then_ hb))
  have HD := Lib.hid (fun (h : a.commands.any isList = false) => reduced_enough (F := F) h)
  have HCt := Lib.hid (reduced_counts a F)
  have HI0 := Lib.hid (fun x (hx : x ∈ F) => (⟨in_red (a := a) hx, in_unr (a := a) hx⟩ : _ ∧ _))
  have hFn := checkFiles_len (both_ok hok).2.1
  have HLn := Lib.hid hF.1
  unfold ExecPost at HP HQ
  generalize execS a (reducedS a F) = R2 at *
  generalize reducedS a F = X at *
  generalize unreadS a F = U at *
  generalize execS a F = R at *
  obtain ⟨code, text, fs, looks, cmd⟩ := R
  obtain ⟨code2, text2, fs2, looks2, cmd2⟩ := R2
  unfold actVal resVal at *
  simp only at HP HQ HD HI0
  have HS := Lib.hid (fun w' (hb : Below w.heap.size w w') => sl_call hF hb (Nat.le_refl _))
  clear ha hok hr hu hF
  go_enter Tryz.func7, Tryz.ntmps7
  go_wp2_with fail
  refine HX.out.mono ?_
  rintro e w8 ⟨A1, n1, c1, rfl, s1, hb8⟩
  have hb9 := fr_box (fr_refl w) hb8
  have z0 := (HA.out _ hb8).cell (i := 0) rfl
  have z1 := (HA.out _ hb8).cell (i := 1) rfl
  have z2 := (HA.out _ hb8).cell (i := 2) rfl
  have z3 := (HA.out _ hb8).cell (i := 3) rfl
  have z4 := (HA.out _ hb8).cell (i := 4) rfl
  have z5 := (HA.out _ hb8).cell (i := 5) rfl
  have hzl := (HA.out _ hb8).lt
  go_wp2_with fail
  refine (HU.out _ hb9).mono ?_
  rintro e w9 ⟨A2, n2, c2, rfl, s2, hb10⟩
  have hb11 := fr_call hb9 hb10
  have hb11b := fr_call hb8 hb10
  have hsx1 := sl_call s1 hb10 (Nat.le_refl _)
  have hn12 : n1 + n2 = nl := by
    have h1 := s1.1
    have h2 := s2.1
    rw [List.length_map] at h2
    rw [← h1, ← h2, HCt.out, HLn.out]
  have hnlb : nl ≤ 1000 := by rw [← HLn.out]; exact hFn
  have g1 := IntWalk.i64_in ((n1 : Int) + (n2 : Int)) ⟨by omega, by omega⟩
  have hnI : (n1 : Int) + (n2 : Int) = (nl : Int) := by omega
  have hm1 : nl ≤ 9223372036854775807 := by omega
  clear s1 z0 z1 z2 z3 z4 z5 hzl HX HU
  go_wp2
  go_loopw [8] (fun i wr => ∃ k : Nat, k ≤ nl ∧ i = .int .i64 k ∧ Below w9.heap.size w9 wr) (fun i _ => nl - (intOf i).toNat)
  case atStart => exact ⟨0, Nat.zero_le _, rfl, Below.refl _ _⟩
  case round =>
    obtain ⟨k, hk, rfl, hbel⟩ := hrel
    have hbw := fr_call hb11 hbel
    by_cases hlt : k < nl
    · obtain ⟨b, o, x, A', n'', c'', rfl, hb, hx, hs1, hnc, hcm, hsl', e0, e1, e2⟩ := (HS.out _ hbw).file hlt
      have hkI : (k : Int) < (nl : Int) := by omega
      have HI := Lib.hid (HI0.out x (List.mem_of_getElem? hx))
      have hsu := sl_call s2 hbel (Nat.le_refl _)
      have hsx := sl_call hsx1 hbel (Nat.le_refl _)
      have hbl : b < wr.heap.size := hb
      clear hx hsl' e1 e2 g1 hnI
      cases hq : lookedS looks x.path
      · rw [hq, Bool.not_false] at HI
        have HC1 := Lib.hid (fun w' (hw : Below wr.heap.size wr w') => slices_ContainsStr A2 n2 c2 (U.map FileV.path) x.path w' (sl_call hsu hw (Nat.le_refl _)))
        have HC2 := Lib.hid (fun w' (hw : Below wr.heap.size wr w') => containsFunc_file 27 (enters_of Tryz.func27 (by kernel_rfl) rfl) (.string x.path) (eqp x.path) A1 n1 c1 X w' (sl_call hsx hw (Nat.le_refl _)) fun W y A1 n1 c1 => law5_at_is y A1 n1 c1 x.path W)
        rw [HI.out.1] at HC2
        rw [HI.out.2] at HC1
        clear HI
        have HK := Lib.hid (show ∀ w', Below wr.heap.size wr w' → (Below wr.heap.size wr w' ∧ w'.cell? ⟨b, o + k * 3, none⟩ = some (.string x.path)) from fun w' hw => ⟨hw, (hw.cell (p := ⟨b, o + k * 3, none⟩) hbl).trans e0⟩)
        go_wp2
        go_region_held3 (fun w' => Below wr.heap.size wr w' ∧ w'.cell? ⟨b, o + k * 3, none⟩ = some (.string x.path))
          (first | assumption | exact HK.out _ (fr_refl _).drew | exact HK.out _ (fr_call (And.left (by assumption)) hbc))
          (first
            | (go_at_call 19; refine (HC1.out _ (And.left (by assumption))).mono ?_; rintro e wc ⟨rfl, rfl⟩)
            | (go_at_call 26; refine (HC2.out _ (And.left (by assumption))).mono ?_; rintro e wc ⟨rfl, hbc⟩))
        all_goals
          have hb9 := fr_call hbel (And.left (by assumption))
          go_wp2
          go_roundw
          case rel => exact ⟨k + 1, by omega, by go_num, hb9⟩
          case measure => simp [intOf]; omega
      · rw [hq, Bool.not_true] at HI
        have HC1 := Lib.hid (fun w' (hw : Below wr.heap.size wr w') => slices_ContainsStr A2 n2 c2 (U.map FileV.path) x.path w' (sl_call hsu hw (Nat.le_refl _)))
        have HC2 := Lib.hid (fun w' (hw : Below wr.heap.size wr w') => containsFunc_file 27 (enters_of Tryz.func27 (by kernel_rfl) rfl) (.string x.path) (eqp x.path) A1 n1 c1 X w' (sl_call hsx hw (Nat.le_refl _)) fun W y A1 n1 c1 => law5_at_is y A1 n1 c1 x.path W)
        rw [HI.out.1] at HC2
        rw [HI.out.2] at HC1
        clear HI
        have HK := Lib.hid (show ∀ w', Below wr.heap.size wr w' → (Below wr.heap.size wr w' ∧ w'.cell? ⟨b, o + k * 3, none⟩ = some (.string x.path)) from fun w' hw => ⟨hw, (hw.cell (p := ⟨b, o + k * 3, none⟩) hbl).trans e0⟩)
        go_wp2
        go_region_held3 (fun w' => Below wr.heap.size wr w' ∧ w'.cell? ⟨b, o + k * 3, none⟩ = some (.string x.path))
          (first | assumption | exact HK.out _ (fr_refl _).drew | exact HK.out _ (fr_call (And.left (by assumption)) hbc))
          (first
            | (go_at_call 19; refine (HC1.out _ (And.left (by assumption))).mono ?_; rintro e wc ⟨rfl, rfl⟩)
            | (go_at_call 26; refine (HC2.out _ (And.left (by assumption))).mono ?_; rintro e wc ⟨rfl, hbc⟩))
        all_goals
          have hb9 := fr_call hbel (And.left (by assumption))
          go_wp2
          go_roundw
          case rel => exact ⟨k + 1, by omega, by go_num, hb9⟩
          case measure => simp [intOf]; omega
    · have hbwb := fr_call hb11b hbel
      have z0 := (HA.out _ hbwb).cell (i := 0) rfl
      have z1 := (HA.out _ hbwb).cell (i := 1) rfl
      have z2 := (HA.out _ hbwb).cell (i := 2) rfl
      have z3 := (HA.out _ hbwb).cell (i := 3) rfl
      have z4 := (HA.out _ hbwb).cell (i := 4) rfl
      have z5 := (HA.out _ hbwb).cell (i := 5) rfl
      have hzl := (HA.out _ hbwb).lt
      have HC := Lib.hid (HL.out _ hbw)
      have hsx := sl_call hsx1 hbel (Nat.le_refl _)
      clear s2 hsx1 HI0
      go_wp2_with fail
      refine HC.out.mono ?_
      rintro e w10 ⟨rfl, hb12⟩
      have hb13 := fr_call hbw hb12
      have hb13b := fr_call hbwb hb12
      clear z0 z1 z2 z3 z4 z5 hzl HC
      cases hli : a.commands.any isList
      · have hRR := HD.out hli
        obtain ⟨rfl, rfl, rfl, rfl, rfl⟩ : code2 = code ∧ text2 = text ∧ fs2 = fs ∧ looks2 = looks ∧ cmd2 = cmd := by cases hRR; exact ⟨rfl, rfl, rfl, rfl, rfl⟩
        have hsx2 := sl_call hsx hb12 (Nat.le_refl _)
        clear hRR HD hli
        have z0 := (HA.out _ hb13b).cell (i := 0) rfl
        have z1 := (HA.out _ hb13b).cell (i := 1) rfl
        have z2 := (HA.out _ hb13b).cell (i := 2) rfl
        have z3 := (HA.out _ hb13b).cell (i := 3) rfl
        have z4 := (HA.out _ hb13b).cell (i := 4) rfl
        have z5 := (HA.out _ hb13b).cell (i := 5) rfl
        have hzl := (HA.out _ hb13b).lt
        go_wp2_with fail
        refine (HP.out _ hb13).mono ?_
        rintro e w11 ⟨A3, n3, c3, A4, n4, c4, rfl, hr1, hb14⟩
        have hb15 := fr_alloc (fr_call hb13 hb14) (.cells #[.int .i64 code2, .string text2, .slice A3 n3 c3, .slice A4 n4 c4, .int .i64 cmd2] 30)
        have hb15b := fr_alloc (fr_call hb13b hb14) (.cells #[.int .i64 code2, .string text2, .slice A3 n3 c3, .slice A4 n4 c4, .int .i64 cmd2] 30)
        have hbs := fr_alloc hb14 (.cells #[.int .i64 code2, .string text2, .slice A3 n3 c3, .slice A4 n4 c4, .int .i64 cmd2] 30)
        have hx1 : Arr _ w11.heap.size 30 [.int .i64 code2, .string text2, .slice A3 n3 c3, .slice A4 n4 c4, .int .i64 cmd2] := heap_alloc_new w11 (.cells #[.int .i64 code2, .string text2, .slice A3 n3 c3, .slice A4 n4 c4, .int .i64 cmd2] 30)
        have hr2 := hr1.then_ (fr_alloc (fr_refl w11) (.cells #[.int .i64 code2, .string text2, .slice A3 n3 c3, .slice A4 n4 c4, .int .i64 cmd2] 30))
        have hsx3 := sl_call hsx2 hbs (Nat.le_refl _)
        clear z0 z1 z2 z3 z4 z5 hzl hr1 HP
        have z0 := (HA.out _ hb15b).cell (i := 0) rfl
        have z1 := (HA.out _ hb15b).cell (i := 1) rfl
        have z2 := (HA.out _ hb15b).cell (i := 2) rfl
        have z3 := (HA.out _ hb15b).cell (i := 3) rfl
        have z4 := (HA.out _ hb15b).cell (i := 4) rfl
        have z5 := (HA.out _ hb15b).cell (i := 5) rfl
        have hzl := (HA.out _ hb15b).lt
        go_wp2_with fail
        refine (HQ.out _ hb15 A1 n1 c1 hsx3).mono ?_
        rintro e w12 ⟨A5, n5, c5, A6, n6, c6, rfl, hr3, hb16⟩
        have hb17 := fr_alloc (fr_call hb15 hb16) (.cells #[.int .i64 code2, .string text2, .slice A5 n5 c5, .slice A6 n6 c6, .int .i64 cmd2] 30)
        have hbt := fr_alloc hb16 (.cells #[.int .i64 code2, .string text2, .slice A5 n5 c5, .slice A6 n6 c6, .int .i64 cmd2] 30)
        have hx2 : Arr _ w12.heap.size 30 [.int .i64 code2, .string text2, .slice A5 n5 c5, .slice A6 n6 c6, .int .i64 cmd2] := heap_alloc_new w12 (.cells #[.int .i64 code2, .string text2, .slice A5 n5 c5, .slice A6 n6 c6, .int .i64 cmd2] 30)
        have hr4 := hr3.then_ (fr_alloc (fr_refl w12) (.cells #[.int .i64 code2, .string text2, .slice A5 n5 c5, .slice A6 n6 c6, .int .i64 cmd2] 30))
        have hr5 := hr2.then_ hbt
        have hx3 := hx1.call hbt
        have HSm := Lib.hid (ref5_SameResult _ A3 A5 n3 n5 c3 c5 A4 A6 n4 n6 c4 c6 _ hr5 hr4)
        unfold resVal at HSm
        simp only at HSm
        have x0 := hx3.cell (i := 0) rfl
        have x1 := hx3.cell (i := 1) rfl
        have x2 := hx3.cell (i := 2) rfl
        have x3 := hx3.cell (i := 3) rfl
        have x4 := hx3.cell (i := 4) rfl
        have hxl := hx3.lt
        clear z0 z1 z2 z3 z4 z5 hzl hr2 hr3 hr4 hr5 hx1 hx2 hx3 hsx3 hsx2 HQ
        go_wp2_with fail
        refine HSm.out.mono ?_
        rintro e w13 ⟨rfl, hb18⟩
        have hb19 := fr_call hb17 hb18
        clear x0 x1 x2 x3 x4
        go_wp2_with fail
        refine (law5_awake _ (hE.then_ hb19).toEnv).mono ?_
        rintro e wz ⟨rfl, hbz⟩
        go_wp2
        go_ret
        exact ⟨rfl, fr_call hb19 hbz⟩
      · go_wp2_with fail
        refine (law5_awake _ (hE.then_ hb13).toEnv).mono ?_
        rintro e wz ⟨rfl, hbz⟩
        go_wp2
        go_ret
        exact ⟨rfl, fr_call hb13 hbz⟩
end Go.Proofs.Sm
