/- Read is as specified for any string, with the lines of errors: the given statement, for all arguments; no condition. -/
import Derived.Test.YtiajmcmncafecaaGreatDoorH8x5
import Derived.Test.YtiajmcmncafecaaGreatDoorH8x6
import Derived.Deep.RegionHeld3
import Derived.Test.YtiajmcmncafecaaGreatDoorH5x8
import Derived.Test.YtiajmcmncafecaaGreatDoorH8x2
import Derived.Test.YtiajmcmncafecaaGreatDoorCardZRC5
namespace Go.Proofs.Sm
open Go.RowKit

set_option maxRecDepth 100000 in
theorem ref5_sameWords (A A' : Option Addr) (n c c' : Nat) (l : List ByteArray) (w : World) (h : Sl w (Lt w.heap.size) A n l) (h' : Sl w (Lt w.heap.size) A' n l) :
    Calls Tryz.prog 16 #[.slice A n c, .slice A' n c'] w fun e w' => e = .returned (.bool true) ∧ Below w.heap.size w w' := by
  have hm : n ≤ 9223372036854775807 := h.2.1
  go_enter Tryz.func16, Tryz.ntmps16
  go_wp2
  go_loopw [5] (fun i wr => ∃ k : Nat, k ≤ n ∧ i = .int .i64 k ∧ Below w.heap.size w wr) (fun i _ => n - (intOf i).toNat)
  case atStart => exact ⟨0, Nat.zero_le _, rfl, Below.refl _ _⟩
  case round =>
    obtain ⟨k, hk, rfl, hbel⟩ := hrel
    by_cases hlt : k < n
    · obtain ⟨b, o, x, rfl, hb, hx, hs1, c0⟩ := (h.keep (keep_lt hbel)).str hlt
      obtain ⟨b', o', x', rfl, hb', hx', hs1', c0'⟩ := (h'.keep (keep_lt hbel)).str hlt
      obtain rfl : x = x' := by rw [hx] at hx'; exact Option.some.inj hx'
      clear hx hx'
      go_wp2
      go_quiet (fail)
      go_wp2
      go_round
      case rel => exact ⟨k + 1, by omega, by go_num, below_drewN hbel _⟩
      case measure => simp [intOf]; omega
    · go_wp2
      go_ret
      exact ⟨rfl, hbel⟩
theorem stood_var : Tryz.prog.stoodInHeld 47 = false := by kernel_rfl
theorem fields_var : Tryz.prog.fieldsOf 47 = #[{ name := "Name", type := 9, offset := 0, embedded := false, tag := "", pkgPath := "", byteOffset := 0 },
    { name := "Value", type := 9, offset := 1, embedded := false, tag := "", pkgPath := "", byteOffset := 16 }] := by simp [Program.fieldsOf, Tryz.underlying47]
theorem neq_var (x : VarV) (w : World) : (binOp .neq 47 (.agg #[.string x.name, .string x.value]) (.agg #[.string x.name, .string x.value])).run Tryz.prog w = .ok (.bool false) w := by
  rw [run_neq_struct, run_equalIn_agg _ _ _ _ _ (by rw [fields_var]; exact Tryz.underlying47) stood_var, fields_var]
  simp [Op.eqFields, go_sem, Tryz.underlying9]
/-- two boxes of the call's own that hold an action each -/
structure Two (W : World) (g : Nat) (a : ActionV) (A : Option Addr) (n n' : Nat) (B : Option Addr) (m m' : Nat) (C : Option Addr) (p p' : Nat) (D : Option Addr) (q q' : Nat) : Prop where
  lt : g < W.heap.size
  c0 : W.cell? ⟨g, 0, none⟩ = some (.string a.tool)
  c1 : W.cell? ⟨g, 1, none⟩ = some (.slice A n n')
  c2 : W.cell? ⟨g, 2, none⟩ = some (.slice B m m')
  c3 : W.cell? ⟨g, 3, none⟩ = some (.slice C p p')
  c4 : W.cell? ⟨g, 4, none⟩ = some (.slice D q q')
  c5 : W.cell? ⟨g, 5, none⟩ = some (.int .i64 a.time)
theorem Two.then_ {W W' : World} {g : Nat} {a : ActionV} {A : Option Addr} {n n' : Nat} {B : Option Addr} {m m' : Nat} {C : Option Addr} {p p' : Nat} {D : Option Addr} {q q' : Nat} (h : Two W g a A n n' B m m' C p p' D q q') (hb : Below W.heap.size W W') : Two W' g a A n n' B m m' C p p' D q q' := by
  have e : ∀ o, W'.cell? ⟨g, o, none⟩ = W.cell? ⟨g, o, none⟩ := fun o => hb.cell (p := ⟨g, o, none⟩) h.lt
  exact ⟨Nat.lt_of_lt_of_le h.lt hb.size, (e 0).trans h.c0, (e 1).trans h.c1, (e 2).trans h.c2, (e 3).trans h.c3, (e 4).trans h.c4, (e 5).trans h.c5⟩
theorem Two.of {W : World} {g : Nat} {a : ActionV} {A : Option Addr} {n n' : Nat} {B : Option Addr} {m m' : Nat} {C : Option Addr} {p p' : Nat} {D : Option Addr} {q q' : Nat} (h : W.heap[g]? = some (.cells #[.string a.tool, .slice A n n', .slice B m m', .slice C p p', .slice D q q', .int .i64 a.time] 26 (0, 0))) : Two W g a A n n' B m m' C p p' D q q' := by
  refine ⟨heap_lt h, ?_, ?_, ?_, ?_, ?_, ?_⟩
  all_goals (rw [Lib.cell_of_heap h]; rfl)
set_option maxHeartbeats 0 in
set_option maxRecDepth 100000 in
theorem ref5_SameAction (a : ActionV) (A A' : Option Addr) (n n' c c' : Nat) (B B' : Option Addr) (m m' d d' : Nat) (C C' : Option Addr) (p p' e e' : Nat) (D D' : Option Addr) (q q' f f' : Nat) (w : World) (h : ActIs w a A n B m C p D q) (h' : ActIs w a A' n' B' m' C' p' D' q') :
    Calls Tryz.prog 7 #[actVal a A n c B m d C p e D q f, actVal a A' n' c' B' m' d' C' p' e' D' q' f'] w fun e w' => e = .returned (.bool true) ∧ Below w.heap.size w w' := by
  have hn : n' = n := by rw [← h'.commands.1, ← h.commands.1]
  subst hn
  have hn : m' = m := by rw [← h'.vars.1, ← h.vars.1]
  subst hn
  have hn : p' = p := by rw [← h'.outputs.1, ← h.outputs.1]
  subst hn
  have hn : q' = q := by rw [← h'.needs.1, ← h.needs.1]
  subst hn
  have hm1 : n' ≤ 9223372036854775807 := h.commands.2.1
  have hm2 : m' ≤ 9223372036854775807 := h.vars.2.1
  have hm3 : p' ≤ 9223372036854775807 := h.outputs.2.1
  have hm4 : q' ≤ 9223372036854775807 := h.needs.2.1
  unfold actVal
  go_enter Tryz.func7, Tryz.ntmps7
  go_wp2_with fail
  generalize hW0 : (w.alloc (.cells #[.string a.tool, .slice A n' c, .slice B m' d, .slice C p' e, .slice D q' f, .int .i64 a.time] 26)).alloc (.cells #[.string a.tool, .slice A' n' c', .slice B' m' d', .slice C' p' e', .slice D' q' f', .int .i64 a.time] 26) = W
  have hb0 : Below w.heap.size w W := by rw [← hW0]; exact fr_alloc (fr_alloc (fr_refl w) _) _
  have t1 : Two W w.heap.size a A n' c B m' d C p' e D q' f := Two.of (by
    rw [← hW0]
    exact ((fr_alloc (fr_refl (w.alloc _)) _).block w.heap.size (by simp)).trans (heap_alloc_new w _))
  have t2 : Two W (w.heap.size + 1) a A' n' c' B' m' d' C' p' e' D' q' f' := Two.of (by
    rw [← hW0]
    have := heap_alloc_new (w.alloc (.cells #[.string a.tool, .slice A n' c, .slice B m' d, .slice C p' e, .slice D q' f, .int .i64 a.time] 26)) (.cells #[.string a.tool, .slice A' n' c', .slice B' m' d', .slice C' p' e', .slice D' q' f', .int .i64 a.time] 26 (0, 0))
    rw [World.size_alloc] at this
    exact this)
  clear hW0
  have a1 := h.then_ hb0
  have a2 := h'.then_ hb0
  clear h h'
  obtain ⟨g, hg⟩ : ∃ g, g = w.heap.size := ⟨_, rfl⟩
  obtain ⟨g2, hg2⟩ : ∃ g, g = w.heap.size + 1 := ⟨_, rfl⟩
  rw [← hg2] at t2 ⊢
  have HB0 := Lib.hid hb0
  rw [← hg] at t1 ⊢
  clear hg hg2 hb0
  have HT1 := Lib.hid t1; clear t1
  have HT2 := Lib.hid t2; clear t2
  have HA1 := Lib.hid a1; clear a1
  have HA2 := Lib.hid a2; clear a2
  obtain ⟨_, k0, k1, k2, k3, k4, k5⟩ := id HT1.out
  obtain ⟨_, j0, j1, j2, j3, j4, j5⟩ := id HT2.out
  go_wp2
  go_loopw [5] (fun i wr => ∃ k : Nat, k ≤ n' ∧ i = .int .i64 k ∧ Below W.heap.size W wr) (fun i _ => n' - (intOf i).toNat)
  case atStart => exact ⟨0, Nat.zero_le _, rfl, Below.refl _ _⟩
  case round =>
    clear k0 k1 k2 k3 k4 k5 j0 j1 j2 j3 j4 j5
    obtain ⟨k, hk, rfl, hbel⟩ := hrel
    obtain ⟨_, k0, k1, k2, k3, k4, k5⟩ := HT1.out.then_ hbel
    obtain ⟨_, j0, j1, j2, j3, j4, j5⟩ := HT2.out.then_ hbel
    by_cases hlt : k < n'
    · obtain ⟨g1, o1, x1, A1, n1, c1, rfl, hb1, hx1, hp1, _, s1, p0⟩ := (HA1.out.commands.keep (keep_lt hbel)).row hlt
      obtain ⟨g3, o3, x3, A3, n3, c3, rfl, hb3, hx3, hp3, _, s3, q0⟩ := (HA2.out.commands.keep (keep_lt hbel)).row hlt
      obtain rfl : x1 = x3 := by rw [hx1] at hx3; exact Option.some.inj hx3
      obtain rfl : n1 = n3 := by rw [← s1.1, ← s3.1]
      have hkI : (k : Int) < (n' : Int) := by omega
      have HK := Lib.hid (show ∀ w', Below W.heap.size W w' → (Below W.heap.size W w' ∧ w'.cell? ⟨g, 1, none⟩ = some (.slice (some ⟨g1, o1, none⟩) n' c) ∧ w'.cell? ⟨g2, 1, none⟩ = some (.slice (some ⟨g3, o3, none⟩) n' c') ∧ w'.cell? ⟨g1, o1 + k, none⟩ = some (.slice A1 n1 c1) ∧ w'.cell? ⟨g3, o3 + k, none⟩ = some (.slice A3 n1 c3)) from fun w' hw =>
        ⟨hw, (HT1.out.then_ hw).c1, (HT2.out.then_ hw).c1, (hw.cell (p := ⟨g1, o1 + k, none⟩) hb1).trans ((hbel.cell (p := ⟨g1, o1 + k, none⟩) hb1).symm.trans p0), (hw.cell (p := ⟨g3, o3 + k, none⟩) hb3).trans ((hbel.cell (p := ⟨g3, o3 + k, none⟩) hb3).symm.trans q0)⟩)
      have hs1 : ∀ w', Below W.heap.size W w' → Sl w' (Lt w'.heap.size) A1 n1 x1 := fun w' hw => ((s1.keep (fun q hq => (hw.block q hq).trans (hbel.block q hq).symm)).more (lt_mono hw.size))
      have hs3 : ∀ w', Below W.heap.size W w' → Sl w' (Lt w'.heap.size) A3 n1 x1 := fun w' hw => ((s3.keep (fun q hq => (hw.block q hq).trans (hbel.block q hq).symm)).more (lt_mono hw.size))
      have HC := Lib.hid (fun w' (hw : Below W.heap.size W w') => ref5_sameWords A1 A3 n1 c1 c3 x1 w' (hs1 w' hw) (hs3 w' hw))
      clear hs1 hs3 hx1 hx3 p0 q0 s1 s3 k0 k1 k2 k3 k4 k5 j0 j1 j2 j3 j4 j5
      obtain ⟨_, p0, p1, p2, p3⟩ := HK.out _ hbel
      go_wp2
      go_region_held3 (fun w' => Below W.heap.size W w' ∧ w'.cell? ⟨g, 1, none⟩ = some (.slice (some ⟨g1, o1, none⟩) n' c) ∧ w'.cell? ⟨g2, 1, none⟩ = some (.slice (some ⟨g3, o3, none⟩) n' c') ∧ w'.cell? ⟨g1, o1 + k, none⟩ = some (.slice A1 n1 c1) ∧ w'.cell? ⟨g3, o3 + k, none⟩ = some (.slice A3 n1 c3))
        (first | assumption | exact HK.out _ hbel.drew | exact HK.out _ (fr_call (And.left (by assumption)) hbc))
        (first | (go_at_call 16; refine (HC.out _ (And.left (by assumption))).mono ?_; rintro e wc ⟨rfl, hbc⟩))
      have hb9 : Below W.heap.size W wc := And.left (by assumption)
      go_wp2
      go_roundw
      case rel => exact ⟨k + 1, by omega, by go_num, hb9⟩
      case measure => simp [intOf]; omega
    · go_wp2
      go_loopw [6] (fun i wr => ∃ k : Nat, k ≤ m' ∧ i = .int .i64 k ∧ Below W.heap.size W wr) (fun i _ => m' - (intOf i).toNat)
      case atStart => exact ⟨0, Nat.zero_le _, rfl, hbel⟩
      case round =>
        clear k0 k1 k2 k3 k4 k5 j0 j1 j2 j3 j4 j5
        obtain ⟨k, hk, rfl, hbel⟩ := hrel
        obtain ⟨_, k0, k1, k2, k3, k4, k5⟩ := HT1.out.then_ hbel
        obtain ⟨_, j0, j1, j2, j3, j4, j5⟩ := HT2.out.then_ hbel
        by_cases hlt : k < m'
        · obtain ⟨g1, o1, x1, rfl, hb1, hx1, _, _, p0, p1⟩ := (HA1.out.vars.keep (keep_lt hbel)).var hlt
          obtain ⟨g3, o3, x3, rfl, hb3, hx3, _, _, q0, q1⟩ := (HA2.out.vars.keep (keep_lt hbel)).var hlt
          obtain rfl : x1 = x3 := by rw [hx1] at hx3; exact Option.some.inj hx3
          clear hx1 hx3
          have hne := neq_var x1
          go_wp2
          go_quiet (fail)
          go_wp2
          go_roundw
          case rel => exact ⟨k + 1, by omega, by go_num, below_drewN hbel _⟩
          case measure => simp [intOf]; omega
        · go_wp2
          go_loopw [7] (fun i wr => ∃ k : Nat, k ≤ q' ∧ i = .int .i64 k ∧ Below W.heap.size W wr) (fun i _ => q' - (intOf i).toNat)
          case atStart => exact ⟨0, Nat.zero_le _, rfl, hbel⟩
          case round =>
            clear k0 k1 k2 k3 k4 k5 j0 j1 j2 j3 j4 j5
            obtain ⟨k, hk, rfl, hbel⟩ := hrel
            obtain ⟨_, k0, k1, k2, k3, k4, k5⟩ := HT1.out.then_ hbel
            obtain ⟨_, j0, j1, j2, j3, j4, j5⟩ := HT2.out.then_ hbel
            by_cases hlt : k < q'
            · obtain ⟨g1, o1, x1, rfl, hb1, hx1, _, _, p0, p1⟩ := (HA1.out.needs.keep (keep_lt hbel)).var hlt
              obtain ⟨g3, o3, x3, rfl, hb3, hx3, _, _, q0, q1⟩ := (HA2.out.needs.keep (keep_lt hbel)).var hlt
              obtain rfl : x1 = x3 := by rw [hx1] at hx3; exact Option.some.inj hx3
              clear hx1 hx3
              have hne := neq_var x1
              go_wp2
              go_quiet (fail)
              go_wp2
              go_roundw
              case rel => exact ⟨k + 1, by omega, by go_num, below_drewN hbel _⟩
              case measure => simp [intOf]; omega
            · have HC := Lib.hid (ref5_sameWords C C' p' e e' a.outputs wr ((HA1.out.then_ hbel).outputs) ((HA2.out.then_ hbel).outputs))
              go_wp2_with fail
              refine HC.out.mono ?_
              rintro e wc ⟨rfl, hbc⟩
              go_wp2
              go_ret
              exact ⟨rfl, fr_call HB0.out (fr_call hbel hbc)⟩
end Go.Proofs.Sm

namespace Go.Proofs.Sm
open Go.RowKit

set_option maxHeartbeats 1000000 in
set_option maxRecDepth 100000 in
theorem law_readsA (T : ByteArray) (w : World) (hE : Env3 w) (hs : T.size ≤ maxLen) :
    Calls Tryz.prog 3 #[.string T] w fun e w' => e = .returned (.bool true) ∧ Below w.heap.size w w' := by
  go_enter Tryz.func3, Tryz.ntmps3
  go_wp2_with fail
  refine (act_Read T w hE hs).mono ?_
  rintro e w1 ⟨A, n, n', B, m, m', C, p, p', D, q, q', rfl, hr1, _, hb1⟩
  have HR := Lib.hid (fun w' (hE' : Env w') => ref5_Read T w' hE' hs)
  unfold ReadAnsA at HR
  generalize readActS T = X at hr1 HR ⊢
  obtain ⟨a, k, f⟩ := X
  try simp only at hr1 HR
  unfold actVal
  go_wp2_with fail
  have hb2 := fr_alloc hb1 (.cells #[.string a.tool, .slice A n n', .slice B m m', .slice C p p', .slice D q q', .int .i64 a.time] 26)
  have hr2 := hr1.then_ (fr_alloc (fr_refl w1) (.cells #[.string a.tool, .slice A n n', .slice B m m', .slice C p p', .slice D q q', .int .i64 a.time] 26))
  have hx2 := heap_alloc_new w1 (.cells #[.string a.tool, .slice A n n', .slice B m m', .slice C p p', .slice D q q', .int .i64 a.time] 26 (0, 0))
  refine (HR.out _ (hE.then_ hb2).toEnv).mono ?_
  rintro e w3 ⟨A2, n2, n2', B2, m2, m2', C2, p2, p2', D2, q2, q2', rfl, hr3, _, hb3⟩
  unfold actVal
  have hr4 := (hr2.then_ hb3).then_ (fr_alloc (fr_refl w3) (.cells #[.string a.tool, .slice A2 n2 n2', .slice B2 m2 m2', .slice C2 p2 p2', .slice D2 q2 q2', .int .i64 a.time] 26))
  have hr5 := hr3.then_ (fr_alloc (fr_refl w3) (.cells #[.string a.tool, .slice A2 n2 n2', .slice B2 m2 m2', .slice C2 p2 p2', .slice D2 q2 q2', .int .i64 a.time] 26))
  have hb4 := fr_alloc (fr_call hb2 hb3) (.cells #[.string a.tool, .slice A2 n2 n2', .slice B2 m2 m2', .slice C2 p2 p2', .slice D2 q2 q2', .int .i64 a.time] 26)
  have hx3 := (hb3.block _ (by simp)).trans hx2
  have hlt := heap_lt hx3
  have j0 : w3.cell? ⟨w1.heap.size, 0, none⟩ = some (.string a.tool) := by rw [Lib.cell_of_heap hx3]; rfl
  have j1 : w3.cell? ⟨w1.heap.size, 1, none⟩ = some (.slice A n n') := by rw [Lib.cell_of_heap hx3]; rfl
  have j2 : w3.cell? ⟨w1.heap.size, 2, none⟩ = some (.slice B m m') := by rw [Lib.cell_of_heap hx3]; rfl
  have j3 : w3.cell? ⟨w1.heap.size, 3, none⟩ = some (.slice C p p') := by rw [Lib.cell_of_heap hx3]; rfl
  have j4 : w3.cell? ⟨w1.heap.size, 4, none⟩ = some (.slice D q q') := by rw [Lib.cell_of_heap hx3]; rfl
  have j5 : w3.cell? ⟨w1.heap.size, 5, none⟩ = some (.int .i64 a.time) := by rw [Lib.cell_of_heap hx3]; rfl
  have HC := Lib.hid (ref5_SameAction a A A2 n n2 n' n2' B B2 m m2 m' m2' C C2 p p2 p' p2' D D2 q q2 q' q2' _ hr4 hr5)
  unfold actVal at HC
  clear hr1 hr2 hr3 hr4 hr5 hx2 hx3 HR
  go_wp2_with fail
  refine HC.out.mono ?_
  rintro e w4 ⟨rfl, hb5⟩
  go_wp2_with fail
  refine (law5_awake w4 (hE.then_ (fr_call hb4 hb5)).toEnv).mono ?_
  rintro e w5 ⟨rfl, hb6⟩
  go_wp2
  go_ret
  exact ⟨rfl, fr_call (fr_call hb4 hb5) hb6⟩
end Go.Proofs.Sm

namespace Go.Proofs.YtiajmcmncafecaaGreatDoor.actread
open Go.ChangeShapes Go.WideShapes Go.ChangeAt Go.RowKit Go.Proofs.Sm

noncomputable def laidWorld (os : Os) : World := errWorld (tableWorld os [(4, Rows.laid_unicode_utf8_first), (5, Rows.laid_unicode_utf8_acceptRanges), (3, Rows.laid_internal_strconv_uint64pow10), (6, Rows.laid_math_bits_deBruijn32tab), (7, Rows.laid_math_bits_deBruijn64tab)])
  149 151 [(2, [118, 97, 108, 117, 101, 32, 111, 117, 116, 32, 111, 102, 32, 114, 97, 110, 103, 101]), (1, [105, 110, 118, 97, 108, 105, 100, 32, 115, 121, 110, 116, 97, 120])]
theorem laid_met (os : Os) (args : Array Value) : laidMet Tryz.prog Rows.actionReadsMatchSpecRow.laid ((laidWorld os).forCall (fun _ _ => 0) ⟨#[], args, []⟩).memory :=
  (LaidIn.of_run (l := Rows.actionReadsMatchSpecRow.laid) (List.range 30) 8 (by kernel_rfl) (by kernel_rfl) (by kernel_rfl) (by kernel_rfl)).met
theorem reads (os : Os) {H : Type} (enc : TypeId × Value → H) : ∃ ds places, DataW.whole enc Tryz.prog ((laidWorld os).forCall (fun _ _ => 0) ⟨#[], #[.string ⟨#[]⟩], []⟩).memory Tryz.f3.params.toList Rows.actionReadsMatchSpecSpec.vars false #[.string ⟨#[]⟩].toList 8 = some (ds, [], places) :=
  ⟨[.lit (.string [])], [], by kernel_rfl⟩

set_option maxRecDepth 100000 in
theorem contract (H : Type) (enc : TypeId × Value → H) (W : World) (base : Nat) (args : Array Value) (ds gs : List (DataW H)) (before : List MemPlace)
    (hval : ∀ (j : Nat) t v, Tryz.f3.params[j]? = some t → args[j]? = some v → Value.okWide Tryz.prog W .any base t v)
    (hW : DataW.Whole enc Tryz.prog Tryz.f3.params.toList Rows.actionReadsMatchSpecSpec.vars false W args.toList ds gs before) (hE : Env3 W) :
    Calls Tryz.prog 3 args W fun e W' => ∃ v, e = .returned v ∧ Rows.actionReadsMatchSpecSpec.post enc Tryz.prog Tryz.f3 false true false false W args v W' := by
  have hW' := hW
  obtain ⟨p, q, hA0, hV, rfl, hfz, hnd⟩ := hW
  have hA : DataW.TrodAll enc Tryz.prog W 0 (fun _ => true) true Tryz.f3.params.toList args.toList ds p := hA0
  rw [Tryz.params3] at hA hval
  obtain ⟨v0, d0, hargs, rfl, h0⟩ := trodAll_one hA
  obtain rfl : args = #[v0] := by cases args; simp_all
  obtain ⟨rfl, rfl⟩ := trodVars_none hV
  have k0 := h0
  have lt0 : ∀ x ∈ p, x.block < W.heap.size := by obtain ⟨m, hm⟩ := k0; exact DataW.trod_lt m _ _ _ hm
  obtain ⟨s, rfl⟩ := okWide_string Tryz.underlying9 (hval 0 9 v0 rfl rfl)
  have hs : s.size ≤ maxLen := by
    obtain ⟨fuel', hf'⟩ := h0
    obtain ⟨s', e', _, z'⟩ := DataW.trod_string Tryz.underlying9 hf'
    have : s = s' := by simpa [Value.cells] using e'
    rw [this]; exact z'
  clear hA0
  refine (law_readsA s W hE hs).mono fun e W' ⟨he, bel⟩ => ?_
  subst he
  exact ⟨_, rfl, _, _, _, [], _, [], hW', trodAll_mk1 (shut_bool Tryz.underlying4 _), trodAll_cons_mk (Below.trod laidOut (by kernel_rfl) (of_decide_eq_true (by kernel_rfl)) k0 bel lt0) trodAll_mk0, rfl, bel.frame _, fun h => by cases h⟩

set_option maxRecDepth 100000 in
theorem lifted (os : Os) (started : os.Started) (H : Type) (enc : TypeId × Value → H) (F : Stop.Interp) :
    ReturnsInHanded {} Tryz.checked os 3 .any ((OpenSpec.ofChange Rows.actionReadsMatchSpecSpec).preRow enc Tryz.prog Tryz.f3 Rows.actionReadsMatchSpecRow.domain false Rows.actionReadsMatchSpecRow.laid) (((OpenSpec.ofChange Rows.actionReadsMatchSpecSpec).at F).post enc Tryz.prog Tryz.f3 false true false false) := by
  obtain ⟨d, places, hx⟩ := reads os enc
  refine returnsInHanded_of_row (C := Tryz.checked) (s := OpenSpec.ofChange Rows.actionReadsMatchSpecSpec) own started (by kernel_rfl) Tryz.func3
    (witness_row_atRef (enc := enc) (C := Tryz.checked) false (laidWorld os) #[.string ⟨#[]⟩] rfl (by kernel_rfl) (by kernel_rfl) (by kernel_rfl)
      (OpenSpec.preRow_of_cond 8 hx (by kernel_rfl) (fun k hk => by cases hk) (by kernel_rfl) (laid_met os _))) ?_
  intro W base args ds gs before hval hW _ _ _ hL hS _
  exact contract H enc W base args ds gs before hval hW (env3_of hL hS (by simp [Rows.actionReadsMatchSpecRow, Rows.laid_unicode_utf8_first]) (by simp [Rows.actionReadsMatchSpecRow]) (show laidMet Tryz.prog Rows.actionReadsMatchSpecRow.laid W from hL).tail.tail.tail.tail)

theorem said : Rows.ActionReadsMatchSpecSaid :=
  OpenClaim.holds_of_cond 3 Tryz.f3 rfl rfl rfl rfl rfl rfl rfl ⟨rfl, rfl, rfl, rfl, rfl⟩ rfl rfl rfl rfl rfl (by kernel_rfl) Tryz.func3 closed
    (of_decide_eq_true (by as_aux_lemma => kernel_rfl)) (by unfold Func.isWrapper; first | (rw [if_pos (by decide +kernel)]; kernel_rfl) | (rw [if_neg (by decide +kernel)]; exact ⟨rfl, rfl⟩))
    (fun os started H enc _ F => by rw [OpenClaim.pre_eq_preRow]; exact lifted os started H enc F)

theorem plain (f : FuncId) (fn : Func) (hf : Tryz.pinned.checked.prog.funcNamed Rows.actionReadsMatchSpecRow.func = some f) (hfn : Tryz.pinned.checked.prog.funcs[f]? = some fn) :
    true = Tryz.pinned.checked.prog.looks [] ∧ ∀ (j : Nat) t, fn.params[j]? = some t → Tryz.pinned.checked.prog.wantsStandIn t = false := by
  obtain rfl : f = 3 := Option.some.inj ((show Tryz.prog.funcNamed Rows.actionReadsMatchSpecRow.func = some 3 by kernel_rfl).symm.trans hf) |>.symm
  obtain rfl : fn = Tryz.f3 := (Option.some.inj (Tryz.func3.symm.trans hfn)).symm
  refine ⟨by kernel_rfl, fun j t ht => ?_⟩
  rw [Tryz.params3] at ht
  have hm : t = 9 := by simpa using Array.mem_of_getElem? ht
  subst hm
  exact (show Tryz.prog.wantsStandIn 9 = false by kernel_rfl)

/-- The card. -/
theorem card : Rows.ActionReadsMatchSpecCardSaid :=
  Claim7.holds_tied_plain_at .later [] _ _ _ _ said (fun _ h => by cases h) (by as_aux_lemma => kernel_rfl) (fun _ h => by cases h) actionReadsMatchSpec_row_tie rfl ⟨rfl, rfl⟩ (by as_aux_lemma => kernel_rfl) rfl plain (by as_aux_lemma => kernel_rfl)
end Go.Proofs.YtiajmcmncafecaaGreatDoor.actread
