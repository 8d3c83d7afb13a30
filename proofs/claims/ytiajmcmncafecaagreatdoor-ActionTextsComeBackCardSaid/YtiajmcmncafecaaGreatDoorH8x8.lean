/- Plain words: a result is read as it was written, and what was read is written as it was. No program is in sight here. -/
import Derived.Test.YtiajmcmncafecaaGreatDoorH8x5
import Derived.Test.YtiajmcmncafecaaGreatDoorH8x6
import Derived.Deep.RegionHeld3
import Derived.Test.YtiajmcmncafecaaGreatDoorH8x1
import Derived.Lib.OthersKept
import Derived.Lib.Builder
import Derived.Lib.FrozenHead
import Derived.Lib.AppendStr
import Derived.Test.YtiajmcmncafecaaGreatDoorH8x3
import Derived.Test.YtiajmcmncafecaaGreatDoorH8x4
import Derived.Test.YtiajmcmncafecaaGreatDoorH8x2
namespace Go.Proofs.Sm
open Go.RowKit

set_option maxRecDepth 100000 in
theorem ref5_sameWords (A A' : Option Addr) (n c c' : Nat) (l : List ByteArray) (w : World) (h : Sl w (Lt w.heap.size) A n l) (h' : Sl w (Lt w.heap.size) A' n l) :
    Calls Tryz.prog 16 #[.slice A n c, .slice A' n c'] w fun e w' => e = .returned (.bool true) ∧ Below w.heap.size w w' := by
  have hm : n ≤ 9223372036854775807 := h.2.1
  go_enter Tryz.func16, Tryz.ntmps16
  go_wp2
  go_loopw [5] (fun i wr => ∃ k : Nat, k ≤ n ∧ i = .int .i64 k ∧ Below w.heap.size w wr) (fun i _ => n - (intOf i).toNat)
  case atStart => exact ⟨0, Nat.zero_le _, rfl, Below.refl _ _⟩
  case round =>
    obtain ⟨k, hk, rfl, hbel⟩ := hrel
    by_cases hlt : k < n
    · obtain ⟨b, o, x, rfl, hb, hx, hs1, c0⟩ := (h.keep (keep_lt hbel)).str hlt
      obtain ⟨b', o', x', rfl, hb', hx', hs1', c0'⟩ := (h'.keep (keep_lt hbel)).str hlt
      obtain rfl : x = x' := by rw [hx] at hx'; exact Option.some.inj hx'
      clear hx hx'
      go_wp2
      go_quiet (fail)
      go_wp2
      go_round
      case rel => exact ⟨k + 1, by omega, by go_num, below_drewN hbel _⟩
      case measure => simp [intOf]; omega
    · go_wp2
      go_ret
      exact ⟨rfl, hbel⟩
theorem stood_var : Tryz.prog.stoodInHeld 47 = false := by kernel_rfl
theorem fields_var : Tryz.prog.fieldsOf 47 = #[{ name := "Name", type := 9, offset := 0, embedded := false, tag := "", pkgPath := "", byteOffset := 0 },
    { name := "Value", type := 9, offset := 1, embedded := false, tag := "", pkgPath := "", byteOffset := 16 }] := by simp [Program.fieldsOf, Tryz.underlying47]
theorem neq_var (x : VarV) (w : World) : (binOp .neq 47 (.agg #[.string x.name, .string x.value]) (.agg #[.string x.name, .string x.value])).run Tryz.prog w = .ok (.bool false) w := by
  rw [run_neq_struct, run_equalIn_agg _ _ _ _ _ (by rw [fields_var]; exact Tryz.underlying47) stood_var, fields_var]
  simp [Op.eqFields, go_sem, Tryz.underlying9]
/-- two boxes of the call's own that hold an action each -/
structure Two (W : World) (g : Nat) (a : ActionV) (A : Option Addr) (n n' : Nat) (B : Option Addr) (m m' : Nat) (C : Option Addr) (p p' : Nat) (D : Option Addr) (q q' : Nat) : Prop where
  lt : g < W.heap.size
  c0 : W.cell? ⟨g, 0, none⟩ = some (.string a.tool)
  c1 : W.cell? ⟨g, 1, none⟩ = some (.slice A n n')
  c2 : W.cell? ⟨g, 2, none⟩ = some (.slice B m m')
  c3 : W.cell? ⟨g, 3, none⟩ = some (.slice C p p')
  c4 : W.cell? ⟨g, 4, none⟩ = some (.slice D q q')
  c5 : W.cell? ⟨g, 5, none⟩ = some (.int .i64 a.time)
theorem Two.then_ {W W' : World} {g : Nat} {a : ActionV} {A : Option Addr} {n n' : Nat} {B : Option Addr} {m m' : Nat} {C : Option Addr} {p p' : Nat} {D : Option Addr} {q q' : Nat} (h : Two W g a A n n' B m m' C p p' D q q') (hb : Below W.heap.size W W') : Two W' g a A n n' B m m' C p p' D q q' := by
  have e : ∀ o, W'.cell? ⟨g, o, none⟩ = W.cell? ⟨g, o, none⟩ := fun o => hb.cell (p := ⟨g, o, none⟩) h.lt
  exact ⟨Nat.lt_of_lt_of_le h.lt hb.size, (e 0).trans h.c0, (e 1).trans h.c1, (e 2).trans h.c2, (e 3).trans h.c3, (e 4).trans h.c4, (e 5).trans h.c5⟩
theorem Two.of {W : World} {g : Nat} {a : ActionV} {A : Option Addr} {n n' : Nat} {B : Option Addr} {m m' : Nat} {C : Option Addr} {p p' : Nat} {D : Option Addr} {q q' : Nat} (h : W.heap[g]? = some (.cells #[.string a.tool, .slice A n n', .slice B m m', .slice C p p', .slice D q q', .int .i64 a.time] 26 (0, 0))) : Two W g a A n n' B m m' C p p' D q q' := by
  refine ⟨heap_lt h, ?_, ?_, ?_, ?_, ?_, ?_⟩
  all_goals (rw [Lib.cell_of_heap h]; rfl)
set_option maxHeartbeats 0 in
set_option maxRecDepth 100000 in
theorem ref5_SameAction (a : ActionV) (A A' : Option Addr) (n n' c c' : Nat) (B B' : Option Addr) (m m' d d' : Nat) (C C' : Option Addr) (p p' e e' : Nat) (D D' : Option Addr) (q q' f f' : Nat) (w : World) (h : ActIs w a A n B m C p D q) (h' : ActIs w a A' n' B' m' C' p' D' q') :
    Calls Tryz.prog 7 #[actVal a A n c B m d C p e D q f, actVal a A' n' c' B' m' d' C' p' e' D' q' f'] w fun e w' => e = .returned (.bool true) ∧ Below w.heap.size w w' := by
  have hn : n' = n := by rw [← h'.commands.1, ← h.commands.1]
  subst hn
  have hn : m' = m := by rw [← h'.vars.1, ← h.vars.1]
  subst hn
  have hn : p' = p := by rw [← h'.outputs.1, ← h.outputs.1]
  subst hn
  have hn : q' = q := by rw [← h'.needs.1, ← h.needs.1]
  subst hn
  have hm1 : n' ≤ 9223372036854775807 := h.commands.2.1
  have hm2 : m' ≤ 9223372036854775807 := h.vars.2.1
  have hm3 : p' ≤ 9223372036854775807 := h.outputs.2.1
  have hm4 : q' ≤ 9223372036854775807 := h.needs.2.1
  unfold actVal
  go_enter Tryz.func7, Tryz.ntmps7
  go_wp2_with fail
  generalize hW0 : (w.alloc (.cells #[.string a.tool, .slice A n' c, .slice B m' d, .slice C p' e, .slice D q' f, .int .i64 a.time] 26)).alloc (.cells #[.string a.tool, .slice A' n' c', .slice B' m' d', .slice C' p' e', .slice D' q' f', .int .i64 a.time] 26) = W
  have hb0 : Below w.heap.size w W := by rw [← hW0]; exact fr_alloc (fr_alloc (fr_refl w) _) _
  have t1 : Two W w.heap.size a A n' c B m' d C p' e D q' f := Two.of (by
    rw [← hW0]
    exact ((fr_alloc (fr_refl (w.alloc _)) _).block w.heap.size (by simp)).trans (heap_alloc_new w _))
  have t2 : Two W (w.heap.size + 1) a A' n' c' B' m' d' C' p' e' D' q' f' := Two.of (by
    rw [← hW0]
    have := heap_alloc_new (w.alloc (.cells #[.string a.tool, .slice A n' c, .slice B m' d, .slice C p' e, .slice D q' f, .int .i64 a.time] 26)) (.cells #[.string a.tool, .slice A' n' c', .slice B' m' d', .slice C' p' e', .slice D' q' f', .int .i64 a.time] 26 (0, 0))
    rw [World.size_alloc] at this
    exact this)
  clear hW0
  have a1 := h.then_ hb0
  have a2 := h'.then_ hb0
  clear h h'
  obtain ⟨g, hg⟩ : ∃ g, g = w.heap.size := ⟨_, rfl⟩
  obtain ⟨g2, hg2⟩ : ∃ g, g = w.heap.size + 1 := ⟨_, rfl⟩
  rw [← hg2] at t2 ⊢
  have HB0 := Lib.hid hb0
  rw [← hg] at t1 ⊢
  clear hg hg2 hb0
  have HT1 := Lib.hid t1; clear t1
  have HT2 := Lib.hid t2; clear t2
  have HA1 := Lib.hid a1; clear a1
  have HA2 := Lib.hid a2; clear a2
  obtain ⟨_, k0, k1, k2, k3, k4, k5⟩ := id HT1.out
  obtain ⟨_, j0, j1, j2, j3, j4, j5⟩ := id HT2.out
  go_wp2
  go_loopw [5] (fun i wr => ∃ k : Nat, k ≤ n' ∧ i = .int .i64 k ∧ Below W.heap.size W wr) (fun i _ => n' - (intOf i).toNat)
  case atStart => exact ⟨0, Nat.zero_le _, rfl, Below.refl _ _⟩
  case round =>
    clear k0 k1 k2 k3 k4 k5 j0 j1 j2 j3 j4 j5
    obtain ⟨k, hk, rfl, hbel⟩ := hrel
    obtain ⟨_, k0, k1, k2, k3, k4, k5⟩ := HT1.out.then_ hbel
    obtain ⟨_, j0, j1, j2, j3, j4, j5⟩ := HT2.out.then_ hbel
    by_cases hlt : k < n'
    · obtain ⟨g1, o1, x1, A1, n1, c1, rfl, hb1, hx1, hp1, _, s1, p0⟩ := (HA1.out.commands.keep (keep_lt hbel)).row hlt
      obtain ⟨g3, o3, x3, A3, n3, c3, rfl, hb3, hx3, hp3, _, s3, q0⟩ := (HA2.out.commands.keep (keep_lt hbel)).row hlt
      obtain rfl : x1 = x3 := by rw [hx1] at hx3; exact Option.some.inj hx3
      obtain rfl : n1 = n3 := by rw [← s1.1, ← s3.1]
      have hkI : (k : Int) < (n' : Int) := by omega
      have HK := Lib.hid (show ∀ w', Below W.heap.size W w' → (Below W.heap.size W w' ∧ w'.cell? ⟨g, 1, none⟩ = some (.slice (some ⟨g1, o1, none⟩) n' c) ∧ w'.cell? ⟨g2, 1, none⟩ = some (.slice (some ⟨g3, o3, none⟩) n' c') ∧ w'.cell? ⟨g1, o1 + k, none⟩ = some (.slice A1 n1 c1) ∧ w'.cell? ⟨g3, o3 + k, none⟩ = some (.slice A3 n1 c3)) from fun w' hw =>
        ⟨hw, (HT1.out.then_ hw).c1, (HT2.out.then_ hw).c1, (hw.cell (p := ⟨g1, o1 + k, none⟩) hb1).trans ((hbel.cell (p := ⟨g1, o1 + k, none⟩) hb1).symm.trans p0), (hw.cell (p := ⟨g3, o3 + k, none⟩) hb3).trans ((hbel.cell (p := ⟨g3, o3 + k, none⟩) hb3).symm.trans q0)⟩)
      have hs1 : ∀ w', Below W.heap.size W w' → Sl w' (Lt w'.heap.size) A1 n1 x1 := fun w' hw => ((s1.keep (fun q hq => (hw.block q hq).trans (hbel.block q hq).symm)).more (lt_mono hw.size))
      have hs3 : ∀ w', Below W.heap.size W w' → Sl w' (Lt w'.heap.size) A3 n1 x1 := fun w' hw => ((s3.keep (fun q hq => (hw.block q hq).trans (hbel.block q hq).symm)).more (lt_mono hw.size))
      have HC := Lib.hid (fun w' (hw : Below W.heap.size W w') => ref5_sameWords A1 A3 n1 c1 c3 x1 w' (hs1 w' hw) (hs3 w' hw))
      clear hs1 hs3 hx1 hx3 p0 q0 s1 s3 k0 k1 k2 k3 k4 k5 j0 j1 j2 j3 j4 j5
      obtain ⟨_, p0, p1, p2, p3⟩ := HK.out _ hbel
      go_wp2
      go_region_held3 (fun w' => Below W.heap.size W w' ∧ w'.cell? ⟨g, 1, none⟩ = some (.slice (some ⟨g1, o1, none⟩) n' c) ∧ w'.cell? ⟨g2, 1, none⟩ = some (.slice (some ⟨g3, o3, none⟩) n' c') ∧ w'.cell? ⟨g1, o1 + k, none⟩ = some (.slice A1 n1 c1) ∧ w'.cell? ⟨g3, o3 + k, none⟩ = some (.slice A3 n1 c3))
        (first | assumption | exact HK.out _ hbel.drew | exact HK.out _ (fr_call (And.left (by assumption)) hbc))
        (first | (go_at_call 16; refine (HC.out _ (And.left (by assumption))).mono ?_; rintro e wc ⟨rfl, hbc⟩))
      have hb9 : Below W.heap.size W wc := And.left (by assumption)
      go_wp2
      go_roundw
      case rel => exact ⟨k + 1, by omega, by go_num, hb9⟩
      case measure => simp [intOf]; omega
    · go_wp2
      go_loopw [6] (fun i wr => ∃ k : Nat, k ≤ m' ∧ i = .int .i64 k ∧ Below W.heap.size W wr) (fun i _ => m' - (intOf i).toNat)
      case atStart => exact ⟨0, Nat.zero_le _, rfl, hbel⟩
      case round =>
        clear k0 k1 k2 k3 k4 k5 j0 j1 j2 j3 j4 j5
        obtain ⟨k, hk, rfl, hbel⟩ := hrel
        obtain ⟨_, k0, k1, k2, k3, k4, k5⟩ := HT1.out.then_ hbel
        obtain ⟨_, j0, j1, j2, j3, j4, j5⟩ := HT2.out.then_ hbel
        by_cases hlt : k < m'
        · obtain ⟨g1, o1, x1, rfl, hb1, hx1, _, _, p0, p1⟩ := (HA1.out.vars.keep (keep_lt hbel)).var hlt
          obtain ⟨g3, o3, x3, rfl, hb3, hx3, _, _, q0, q1⟩ := (HA2.out.vars.keep (keep_lt hbel)).var hlt
          obtain rfl : x1 = x3 := by rw [hx1] at hx3; exact Option.some.inj hx3
          clear hx1 hx3
          have hne := neq_var x1
          go_wp2
          go_quiet (fail)
          go_wp2
          go_roundw
          case rel => exact ⟨k + 1, by omega, by go_num, below_drewN hbel _⟩
          case measure => simp [intOf]; omega
        · go_wp2
          go_loopw [7] (fun i wr => ∃ k : Nat, k ≤ q' ∧ i = .int .i64 k ∧ Below W.heap.size W wr) (fun i _ => q' - (intOf i).toNat)
          case atStart => exact ⟨0, Nat.zero_le _, rfl, hbel⟩
          case round =>
            clear k0 k1 k2 k3 k4 k5 j0 j1 j2 j3 j4 j5
            obtain ⟨k, hk, rfl, hbel⟩ := hrel
            obtain ⟨_, k0, k1, k2, k3, k4, k5⟩ := HT1.out.then_ hbel
            obtain ⟨_, j0, j1, j2, j3, j4, j5⟩ := HT2.out.then_ hbel
            by_cases hlt : k < q'
            · obtain ⟨g1, o1, x1, rfl, hb1, hx1, _, _, p0, p1⟩ := (HA1.out.needs.keep (keep_lt hbel)).var hlt
              obtain ⟨g3, o3, x3, rfl, hb3, hx3, _, _, q0, q1⟩ := (HA2.out.needs.keep (keep_lt hbel)).var hlt
              obtain rfl : x1 = x3 := by rw [hx1] at hx3; exact Option.some.inj hx3
              clear hx1 hx3
              have hne := neq_var x1
              go_wp2
              go_quiet (fail)
              go_wp2
              go_roundw
              case rel => exact ⟨k + 1, by omega, by go_num, below_drewN hbel _⟩
              case measure => simp [intOf]; omega
            · have HC := Lib.hid (ref5_sameWords C C' p' e e' a.outputs wr ((HA1.out.then_ hbel).outputs) ((HA2.out.then_ hbel).outputs))
              go_wp2_with fail
              refine HC.out.mono ?_
              rintro e wc ⟨rfl, hbc⟩
              go_wp2
              go_ret
              exact ⟨rfl, fr_call HB0.out (fr_call hbel hbc)⟩
end Go.Proofs.Sm

namespace Go.Proofs.Sm
open Go.RowKit

theorem bld_size : (Tryz.prog.info? 78).map (·.size) = some 2 := by kernel_rfl
theorem bld_lies : liesAt Tryz.prog Tryz.prog.depth 78 (2 / Tryz.prog.cellsOf 78) 0 78 1 = true := by kernel_rfl
theorem byte_info : (Tryz.prog.info? 5).map (fun i => (i.zero, i.size, i.bytes)) = some (some (.int .u8 0), 1, 1) := by kernel_rfl

/-- A builder in block b that holds these bytes. -/
def Bld (w : World) (b : Nat) (l : List UInt8) : Prop := Lib.IsBuilderF 78 5 b b (Lib.byteCells l) w
/-- What a builder's method does to memory. -/
def Wrote (b : Nat) (w w' : World) : Prop := Below b w w' ∧ Lib.OthersKept 5 (some b) w w'
theorem Wrote.trans {b : Nat} {w w1 w2 : World} (h : Wrote b w w1) (k : Wrote b w1 w2) : Wrote b w w2 := ⟨h.1.trans k.1, h.2.trans k.2⟩
theorem Bld.lt {w : World} {b : Nat} {l : List UInt8} (h : Bld w b l) : b < w.heap.size := by
  rcases h with h | h
  · exact h.lt
  · exact h.lt
theorem Bld.new (w : World) : Bld (w.alloc (.cells #[.pointer none, .slice none 0 0] 78)) w.heap.size [] := by
  refine .inl ⟨Nat.le_refl _, .slice none 0 0, heap_alloc_new w _, ?_, by simp [Value.ownBlock]⟩
  exact World.ownsRowF_of (World.ownsRow_nil _ _ _ _)
theorem Bld.alloc {w : World} {b : Nat} {l : List UInt8} (h : Bld w b l) (o : Obj) : Bld (w.alloc o) b l := by
  rcases h with h | h
  · exact .inl (h.alloc o)
  · exact .inr (h.alloc o)
theorem ownsRowF_call {w w' : World} {base : Nat} {e : TypeId} {size : Nat} {v : Value} {n : Nat} {xs : List Value} (h : w.ownsRowF base e size v n xs) (hb : Below w.heap.size w w') : w'.ownsRowF base e size v n xs :=
  h.kept (row := none) ⟨hb.os, hb.tape, hb.output, hb.size, fun i hi _ => hb.block i hi⟩ (by
    cases v.ownBlock with
    | none => exact .inl rfl
    | some k => exact .inr (by simp))
theorem Bld.drew {w : World} {b : Nat} {l : List UInt8} (h : Bld w b l) : Bld w.drew b l := h
theorem Bld.call {w w' : World} {b : Nat} {l : List UInt8} (h : Bld w b l) (hb : Below w.heap.size w w') : Bld w' b l := by
  have hlt := h.lt
  rcases h with ⟨hB, v, hbk, hown, hne⟩ | ⟨hB, v, hbk, hown, hne⟩
  · exact .inl ⟨hB, v, (hb.block b hlt).trans hbk, ownsRowF_call hown hb, hne⟩
  · exact .inr ⟨hB, v, (hb.block b hlt).trans hbk, ownsRowF_call hown hb, hne⟩
theorem Wrote.of_below {b : Nat} {w w' : World} (hb : Below w.heap.size w w') (hlt : b ≤ w.heap.size) : Wrote b w w' :=
  ⟨hb.mono hlt, fun k _ hk _ _ => (hb.block k (Array.getElem?_eq_some_iff.1 hk).1).trans hk⟩
theorem Wrote.refl (b : Nat) (w : World) : Wrote b w w := ⟨Below.refl _ _, Lib.OthersKept.refl _ _ _⟩
theorem Wrote.drew {b : Nat} {w w' : World} (h : Wrote b w w') : Wrote b w w'.drew := ⟨h.1.drew, h.2⟩
theorem Wrote.call {b : Nat} {w w' w1 : World} (hb : b ≤ w.heap.size) (h : Wrote b w w') (hc : Below w'.heap.size w' w1) : Wrote b w w1 := h.trans (Wrote.of_below hc (Nat.le_trans hb h.1.size))
/-- a box that is no row of bytes stays -/
theorem Wrote.box {b : Nat} {w w' : World} (h : Wrote b w w') {g : Nat} {cs : Array Value} {t : TypeId} {fz : Nat × Nat} (hg : w.heap[g]? = some (.cells cs t fz)) (hne : g ≠ b) (ht : t ≠ 5) : w'.heap[g]? = some (.cells cs t fz) :=
  h.2 g _ hg (by simpa using hne) (fun c fz' e => by cases e; exact ht rfl)

set_option maxHeartbeats 1000000 in
set_option maxRecDepth 100000 in
theorem bld_check_used (b : Nat) (w : World) (h0 : w.cell? ⟨b, 0, none⟩ = some (.pointer (some ⟨b, 0, none⟩))) :
    Calls Tryz.prog 71 #[.pointer (some ⟨b, 0, none⟩)] w fun e w' => e = .returned (.tuple #[]) ∧ w' = w := by
  obtain ⟨j, hj, _⟩ := Option.map_eq_some_iff.1 bld_size
  go_enter Tryz.func71, Tryz.ntmps71
  go_wp2
  rw [Lib.run_neq_ptr_same w _ Tryz.underlying76 hj]
  go_wp2
  go_end0
  exact ⟨rfl, rfl⟩
set_option maxHeartbeats 1000000 in
set_option maxRecDepth 100000 in
theorem bld_check_fresh (b : Nat) (w : World) (h0 : w.cell? ⟨b, 0, none⟩ = some (.pointer none)) (hsh : w.shape? b = some (78, 2)) (hfz : w.frozen? ⟨b, 0, none⟩ = false) :
    Calls Tryz.prog 71 #[.pointer (some ⟨b, 0, none⟩)] w fun e w' => e = .returned (.tuple #[]) ∧ w' = w.setCell ⟨b, 0, none⟩ (.pointer (some ⟨b, 0, none⟩)) := by
  obtain ⟨j, hj, hjs⟩ := Option.map_eq_some_iff.1 bld_size
  go_enter Tryz.func71, Tryz.ntmps71
  go_wp2
  rw [Lib.run_to_unsafe w ⟨b, 0, none⟩ Tryz.underlying76 Tryz.underlying127 hj (by rw [hjs]; decide) hsh (Nat.zero_lt_succ 1)]
  simp only [Result.andThen]
  rw [Oper.upon_value]
  go_wp2
  rw [run_callFunc_extern Tryz.func106 (by kernel_rfl) (by kernel_rfl) (by kernel_rfl) (e := Extern.AbiNoEscape.same) (by kernel_rfl)]
  rw [Lib.run_noEscape]
  simp only [Result.andThen]
  rw [Oper.upon_value]
  go_wp2
  rw [Lib.run_from_unsafe w ⟨b, 0, none⟩ Tryz.underlying127 Tryz.underlying76 hj hsh bld_lies]
  simp only [Result.andThen]
  rw [Oper.upon_value]
  go_wp2
  go_end0
  exact ⟨rfl, rfl⟩
theorem bld_check (b : Nat) (bs : List Value) (w : World) (h : Lib.IsBuilderF 78 5 b b bs w) :
    Calls Tryz.prog 71 #[.pointer (some ⟨b, 0, none⟩)] w fun e w' => e = .returned (.tuple #[]) ∧ Lib.BuilderAtF 78 5 b b (.pointer (some ⟨b, 0, none⟩)) bs w' ∧ Below b w w' ∧ Lib.OthersKept 5 (some b) w w' := by
  rcases h with h | h
  · refine (bld_check_fresh b w h.cell0 h.shape h.frozen0).mono ?_
    rintro e w' ⟨rfl, rfl⟩
    exact ⟨rfl, h.used _, (Below.refl b w).setCell (p := ⟨b, 0, none⟩) h.1 _, (Lib.OthersKept.refl _ _ w).setCell ⟨b, 0, none⟩ rfl _⟩
  · refine (bld_check_used b w h.cell0).mono ?_
    rintro e w' ⟨rfl, rfl⟩
    exact ⟨rfl, h, Below.refl b _, Lib.OthersKept.refl _ _ _⟩

set_option maxHeartbeats 2000000 in
set_option maxRecDepth 100000 in
theorem bld_WriteString (b : Nat) (l : List UInt8) (s : ByteArray) (w : World) (h : Bld w b l) (hlen : l.length + s.size ≤ 140737488355328) :
    Calls Tryz.prog 40 #[.pointer (some ⟨b, 0, none⟩), .string s] w fun e w' => e = .returned (.tuple #[.int .i64 s.size, .nilIface]) ∧ Bld w' b (l ++ s.data.toList) ∧ Wrote b w w' := by
  obtain ⟨i0, hi, hz0, hz1, hz2⟩ := info_parts byte_info
  have hbl := h.lt
  have hbl' := Lib.byteCells_length l
  go_enter Tryz.func40, Tryz.ntmps40
  go_wp2_with (go_at_call 71; refine (bld_check b _ _ h).mono ?_)
  rintro e w1 ⟨rfl, h1, hb1, hk1⟩
  obtain ⟨hB, v, hbk, hown, hne⟩ := h1
  have c0 : w1.cell? ⟨b, 0, none⟩ = some (.pointer (some ⟨b, 0, none⟩)) := by rw [Lib.cell_of_heap hbk]; rfl
  have c1 : w1.cell? ⟨b, 1, none⟩ = some v := by rw [Lib.cell_of_heap hbk]; rfl
  have HL := Lib.hid hbl'; clear hbl'
  go_wp2_with (at_builtin; refine Lib.wpList_append_own_stringF _ rfl _ _ 53 9 rfl b 5 i0 Tryz.underlying53 Tryz.underlying9 hi hz0 hz1 hz2 _ _ _ rfl hown s rfl ?c3 ?c4 ?c5 ?_)
  case c3 => unfold maxLen; rw [HL.out]; omega
  case c4 => rw [HL.out]; omega
  case c5 => have := hb1.size; omega
  intro v' w2 hown' hgrow _
  have hlt : b < w1.heap.size := by
    rcases Nat.lt_or_ge b w1.heap.size with h' | h'
    · exact h'
    · simp [Array.getElem?_eq_none h'] at hbk
  have hb2 : w2.heap[b]? = some (.cells #[.pointer (some ⟨b, 0, none⟩), v] 78 (0, 0)) := by
    rw [hgrow.block b hlt (fun e => hne e.symm)]
    exact hbk
  have d0 : w2.cell? ⟨b, 0, none⟩ = some (.pointer (some ⟨b, 0, none⟩)) := by rw [Lib.cell_of_heap hb2]; rfl
  have d1 : w2.cell? ⟨b, 1, none⟩ = some v := by rw [Lib.cell_of_heap hb2]; rfl
  have f1 : w2.frozen? ⟨b, 1, none⟩ = false := Lib.frozen_of_heap hb2 1
  obtain ⟨ao, n', cap, rfl⟩ : ∃ ao n' cap, v' = .slice ao n' cap := by
    rcases hown'.2 with ⟨hv, _⟩ | ⟨g, cap, cur, fz, hv, _⟩
    · exact ⟨_, _, _, hv⟩
    · exact ⟨_, _, _, hv⟩
  go_wp2
  go_ret2
  refine ⟨rfl, ?_, ?_, (hk1.grown hgrow (Lib.ownsRowF_kind hown)).setCell ⟨b, 1, none⟩ rfl _⟩
  · rw [Bld, Lib.byteCells_append, ← Lib.strCells_eq]
    exact .inr (Lib.BuilderAtF.put (T := 78) (e := 5) hB hb2 (bs' := Lib.byteCells l ++ Lib.strCells s) (by simpa [Lib.strCells_length] using hown') (by decide))
  · exact (hb1.grown hgrow (by have := hb1.size; omega) (fun k hk => (hown.lt k hk).1)).setCell (p := ⟨b, 1, none⟩) hB _
theorem bld_String (b : Nat) (l : List UInt8) (w : World) (h : Bld w b l) :
    Calls Tryz.prog 43 #[.pointer (some ⟨b, 0, none⟩)] w fun e w' => e = .returned (.string ⟨l.toArray⟩) ∧ Bld w' b l ∧ Wrote b w w' :=
  (Tryz.Builder_String_any_k b b _ w h (Nat.le_of_lt h.lt)).mono fun _ _ h => ⟨h.1, h.2.1, h.2.2.1, h.2.2.2⟩
end Go.Proofs.Sm

namespace Go.Proofs.Sm
open Go.RowKit

theorem fr_wrote {a w w1 : World} {b : Nat} (h : Below a.heap.size a w) (hw : Wrote b w w1) (hb : a.heap.size ≤ b) : Below a.heap.size a w1 := h.trans (hw.1.mono hb)
theorem below_wrote {b : Nat} {a w w1 : World} (h : Below b a w) (hw : Wrote b w w1) : Below b a w1 := h.trans hw.1
theorem below_call {b : Nat} {a w w1 : World} (hlt : b ≤ a.heap.size) (h : Below b a w) (hb : Below w.heap.size w w1) : Below b a w1 := h.trans (hb.mono (Nat.le_trans hlt h.size))

end Go.Proofs.Sm

namespace Go.Proofs.Sm
open Go.RowKit

theorem join_any (A : Option Addr) (n c : Nat) (ws : List ByteArray) (w : World) (hsl : Sl w (Lt w.heap.size) A n ws) (hnc : n ≤ c) (hn : n ≤ 140737488355328) (hlen : (joinS ws).length ≤ 140737488355328) :
    Calls Tryz.prog 41 #[.slice A n c, .string ⟨#[32]⟩] w fun e w' => e = .returned (.string ⟨(joinS ws).toArray⟩) ∧ Below w.heap.size w w' := by
  have h1 := hsl.1
  by_cases h0 : n = 0
  · subst h0
    cases ws with
    | cons a l => simp at h1
    | nil => exact (Tryz.strings_Join_none A c ⟨#[32]⟩ w).mono fun _ _ h => ⟨h.1, below_eq h.2.symm⟩
  · obtain ⟨b, o, x, rfl, hb, _⟩ := hsl.str (k := 0) (by omega)
    subst h1
    exact (Tryz.strings_Join b o c ws ⟨#[32]⟩ w (fun j x hx => by
      have hj : j < ws.length := by
        rcases Nat.lt_or_ge j ws.length with h | h
        · exact h
        · rw [List.getElem?_eq_none h] at hx; cases hx
      obtain ⟨b', o', y, e, _, hy, _, c0⟩ := hsl.str hj
      cases e
      rw [hx] at hy; cases hy
      exact c0) hb hn hnc hlen).mono fun _ _ h => h
set_option maxHeartbeats 1000000 in
set_option maxRecDepth 100000 in
theorem act_text1 (g : Nat) (L : List UInt8) (A : Option Addr) (n c : Nat) (ws : List ByteArray) (w : World) (hB : Bld w g L) (hsl : Sl w (Lt w.heap.size) A n ws) (hnc : n ≤ c) (hn : n ≤ 140737488355328) (hlen : L.length + (joinS ws).length ≤ 10000000) :
    Calls Tryz.prog 39 #[.slice A n c, .pointer (some ⟨g, 0, none⟩)] w fun e w' => e = .returned (.tuple #[]) ∧ Bld w' g (L ++ lineW ws) ∧ Wrote g w w' := by
  have hgl := hB.lt
  obtain ⟨j, hj⟩ : ∃ j : ByteArray, j = ⟨(joinS ws).toArray⟩ := ⟨_, rfl⟩
  have hjs : j.size = (joinS ws).length := by rw [hj]; simp [ByteArray.size]
  have hjl : j.data.toList = joinS ws := by rw [hj]
  have HJ := Lib.hid (hj ▸ join_any A n c ws w hsl hnc hn (by omega) : Calls Tryz.prog 41 #[.slice A n c, .string ⟨#[32]⟩] w fun e w' => e = .returned (.string j) ∧ Below w.heap.size w w')
  clear hj
  have HL := Lib.hid hjl; clear hjl
  have q4 : (⟨#[10]⟩ : ByteArray).size = 1 := rfl
  obtain ⟨p, z, P, a⟩ := cat_op j ⟨#[10]⟩ (by omega)
  go_enter Tryz.func39, Tryz.ntmps39
  go_wp2_with fail
  refine HJ.out.mono ?_
  rintro e w1 ⟨rfl, hb1⟩
  have hB1 := hB.call hb1
  go_wp2_with (go_at_call 40; refine (bld_WriteString g L p _ hB1 (by omega)).mono ?_; rintro e w2 ⟨rfl, hB2, hw2⟩)
  first | go_end0 | refine bodyPost_ret (results_none rfl _ _ _) rfl ?_
  exact ⟨rfl, by rw [lineW, ← HL.out, ← show p.data.toList = j.data.toList ++ [10] from P.out]; exact hB2, (Wrote.of_below hb1 (Nat.le_of_lt hgl)).trans hw2⟩
end Go.Proofs.Sm

namespace Go.Proofs.Sm
open Go.RowKit

/-- a new row of strings -/
theorem row_new (w : World) (t : TypeId) (l : List ByteArray) (hl : l.length ≤ maxLen) (hs : ∀ x ∈ l, x.size ≤ maxLen) :
    Sl (w.alloc (.cells (l.map Value.string).toArray t)) (Lt (w.alloc (.cells (l.map Value.string).toArray t)).heap.size) (some ⟨w.heap.size, 0, none⟩) l.length l :=
  (Sl.new_strs hl hs).more (lt_mono (by simp))
theorem line_two (x y : ByteArray) : lineW [x, y] = x.data.toList ++ [32] ++ y.data.toList ++ [10] := by rw [lineW, joinS_two]
theorem line_three (x y z : ByteArray) : lineW [x, y, z] = x.data.toList ++ [32] ++ y.data.toList ++ [32] ++ z.data.toList ++ [10] := by rw [lineW, joinS_three]

theorem line_call2 (g : Nat) (L : List UInt8) (x y : ByteArray) (W : World) (hB : Bld W g L) (hx : x.size ≤ 20000) (hy : y.size ≤ 20000) (hlen : L.length ≤ 2000000) :
    Calls Tryz.prog 39 #[.slice (some ⟨W.heap.size, 0, none⟩) 2 2, .pointer (some ⟨g, 0, none⟩)] (W.alloc (.cells #[.string x, .string y] 9)) fun e w' => e = .returned (.tuple #[]) ∧ Bld w' g (L ++ (x.data.toList ++ [32] ++ y.data.toList ++ [10])) ∧ Wrote g W w' := by
  have hxs : x.data.toList.length = x.size := by simp
  have hys : y.data.toList.length = y.size := by simp
  have hl : (joinS [x, y]).length ≤ 50000 := by rw [joinS_two]; simp only [List.length_append, List.length_cons, List.length_nil, hxs, hys]; omega
  refine (act_text1 g L _ 2 2 [x, y] _ (hB.alloc _) (row_new W 9 [x, y] (by show 2 ≤ maxLen; decide) (by intro z hz; simp at hz; unfold maxLen; rcases hz with rfl | rfl <;> omega)) (Nat.le_refl _) (by decide) (by omega)).mono ?_
  rintro e w1 ⟨rfl, hB1, hw⟩
  rw [line_two] at hB1
  exact ⟨rfl, hB1, (Wrote.of_below ((Below.refl _ _).alloc (Nat.le_refl _) _) (Nat.le_of_lt hB.lt)).trans hw⟩
theorem line_call3 (g : Nat) (L : List UInt8) (x y z : ByteArray) (W : World) (hB : Bld W g L) (hx : x.size ≤ 20000) (hy : y.size ≤ 20000) (hz : z.size ≤ 20000) (hlen : L.length ≤ 2000000) :
    Calls Tryz.prog 39 #[.slice (some ⟨W.heap.size, 0, none⟩) 3 3, .pointer (some ⟨g, 0, none⟩)] (W.alloc (.cells #[.string x, .string y, .string z] 9)) fun e w' => e = .returned (.tuple #[]) ∧ Bld w' g (L ++ (x.data.toList ++ [32] ++ y.data.toList ++ [32] ++ z.data.toList ++ [10])) ∧ Wrote g W w' := by
  have hxs : x.data.toList.length = x.size := by simp
  have hys : y.data.toList.length = y.size := by simp
  have hzs : z.data.toList.length = z.size := by simp
  have hl : (joinS [x, y, z]).length ≤ 100000 := by rw [joinS_three]; simp only [List.length_append, List.length_cons, List.length_nil, hxs, hys, hzs]; omega
  refine (act_text1 g L _ 3 3 [x, y, z] _ (hB.alloc _) (row_new W 9 [x, y, z] (by show 3 ≤ maxLen; decide) (by intro u hu; simp at hu; unfold maxLen; rcases hu with rfl | rfl | rfl <;> omega)) (Nat.le_refl _) (by decide) (by omega)).mono ?_
  rintro e w1 ⟨rfl, hB1, hw⟩
  rw [line_three] at hB1
  exact ⟨rfl, hB1, (Wrote.of_below ((Below.refl _ _).alloc (Nat.le_refl _) _) (Nat.le_of_lt hB.lt)).trans hw⟩
theorem len_cons {l : List UInt8} {m : Nat} (h : l.length ≤ m) {l' : List UInt8} {m' : Nat} (h' : l'.length ≤ m') : (l ++ l').length ≤ m + m' := by rw [List.length_append]; omega

theorem ret_strL {l l' : List UInt8} (h : l = l') : Ending.returned (.string ⟨l.toArray⟩) = Ending.returned (.string ⟨l'.toArray⟩) := by rw [h]
set_option maxHeartbeats 4000000 in
set_option maxRecDepth 100000 in
theorem act_text (a : ActionV) (A : Option Addr) (n n' : Nat) (B : Option Addr) (m m' : Nat) (C : Option Addr) (p p' : Nat) (D : Option Addr) (q q' : Nat) (w : World) (hE : Env2 w) (ha : ActIs w a A n B m C p D q) (ok : ActOk a) :
    Calls Tryz.prog 18 #[actVal a A n n' B m m' C p p' D q q'] w fun e w' => e = .returned (.string ⟨(actTextL a).toArray⟩) ∧ Below w.heap.size w w' := by
  unfold actVal
  have hm1 : n ≤ 9223372036854775807 := ha.commands.2.1
  have hm2 : m ≤ 9223372036854775807 := ha.vars.2.1
  have hm3 : p ≤ 9223372036854775807 := ha.outputs.2.1
  have hm4 : q ≤ 9223372036854775807 := ha.needs.2.1
  have htl := ha.tool
  go_enter Tryz.func18, Tryz.ntmps18
  go_wp2_with fail
  have hB : Bld ((w.alloc (.cells #[.string a.tool, .slice A n n', .slice B m m', .slice C p p', .slice D q q', .int .i64 a.time] 26)).alloc (.cells #[.pointer none, .slice none 0 0] 78)) (w.heap.size + 1) [] := by
    have h := Bld.new (w.alloc (.cells #[.string a.tool, .slice A n n', .slice B m m', .slice C p p', .slice D q q', .int .i64 a.time] 26))
    rwa [show (w.alloc (.cells #[.string a.tool, .slice A n n', .slice B m m', .slice C p p', .slice D q q', .int .i64 a.time] 26)).heap.size = w.heap.size + 1 by simp] at h
  have hX : ((w.alloc (.cells #[.string a.tool, .slice A n n', .slice B m m', .slice C p p', .slice D q q', .int .i64 a.time] 26)).alloc (.cells #[.pointer none, .slice none 0 0] 78)).heap[w.heap.size]? = some (.cells #[.string a.tool, .slice A n n', .slice B m m', .slice C p p', .slice D q q', .int .i64 a.time] 26 (0, 0)) :=
    (Lib.alloc_old (w.alloc (.cells #[.string a.tool, .slice A n n', .slice B m m', .slice C p p', .slice D q q', .int .i64 a.time] 26)) _ _ (by simp)).trans (heap_alloc_new w _)
  have hbel2 : Below w.heap.size w ((w.alloc (.cells #[.string a.tool, .slice A n n', .slice B m m', .slice C p p', .slice D q q', .int .i64 a.time] 26)).alloc (.cells #[.pointer none, .slice none 0 0] 78)) := fr_alloc (fr_alloc (fr_refl w) _) _
  have hWg : ((w.alloc (.cells #[.string a.tool, .slice A n n', .slice B m m', .slice C p p', .slice D q q', .int .i64 a.time] 26)).alloc (.cells #[.pointer none, .slice none 0 0] 78)).heap.size = w.heap.size + 1 + 1 := by simp
  have hEn := (hE.alloc (.cells #[.string a.tool, .slice A n n', .slice B m m', .slice C p p', .slice D q q', .int .i64 a.time] 26)).alloc (.cells #[.pointer none, .slice none 0 0] 78)
  have hfc : Sl ((w.alloc (.cells #[.string a.tool, .slice A n n', .slice B m m', .slice C p p', .slice D q q', .int .i64 a.time] 26)).alloc (.cells #[.pointer none, .slice none 0 0] 78)) (Lt (w.heap.size + 1)) A n a.commands := (ha.commands.keep (keep_lt hbel2)).more (lt_mono (by omega))
  have hfv : Sl ((w.alloc (.cells #[.string a.tool, .slice A n n', .slice B m m', .slice C p p', .slice D q q', .int .i64 a.time] 26)).alloc (.cells #[.pointer none, .slice none 0 0] 78)) (Lt (w.heap.size + 1)) B m a.vars := (ha.vars.keep (keep_lt hbel2)).more (lt_mono (by omega))
  have hfo : Sl ((w.alloc (.cells #[.string a.tool, .slice A n n', .slice B m m', .slice C p p', .slice D q q', .int .i64 a.time] 26)).alloc (.cells #[.pointer none, .slice none 0 0] 78)) (Lt (w.heap.size + 1)) C p a.outputs := (ha.outputs.keep (keep_lt hbel2)).more (lt_mono (by omega))
  have hfn : Sl ((w.alloc (.cells #[.string a.tool, .slice A n n', .slice B m m', .slice C p p', .slice D q q', .int .i64 a.time] 26)).alloc (.cells #[.pointer none, .slice none 0 0] 78)) (Lt (w.heap.size + 1)) D q a.needs := (ha.needs.keep (keep_lt hbel2)).more (lt_mono (by omega))
  have hgw : w.heap.size ≤ w.heap.size + 1 := Nat.le_succ _
  have hz1 : w.heap.size < w.heap.size + 1 := Nat.lt_succ_self _
  rw [← hWg]
  generalize hg : w.heap.size + 1 = g at *
  have HG := Lib.hid hg; clear hg
  have hgl := hE.size
  generalize ((w.alloc (.cells #[.string a.tool, .slice A n n', .slice B m m', .slice C p p', .slice D q q', .int .i64 a.time] 26)).alloc (.cells #[.pointer none, .slice none 0 0] 78)) = W at *
  have HEn := Lib.hid (show ∀ w', Below g W w' → Env2 w' from fun w' h => hEn.of_heap h.size fun k hk => h.block k (Nat.lt_of_lt_of_le hk (Nat.le_trans hgl hgw)))
  have HX := Lib.hid hX; clear hX
  have htm := ok.time
  have htn : InInt a.time := ha.time
  refine (line_call2 g [] ⟨#[116, 111, 111, 108]⟩ a.tool W hB (by decide) (by have := ok.tool; omega) (by simp)).mono ?_
  rintro e w1 ⟨rfl, hB1, hw1⟩
  have hB2 : Bld w1 g (toolL a) := by
    have e : toolL a = [] ++ ([116, 111, 111, 108] ++ [32] ++ a.tool.data.toList ++ [10]) := by simp [toolL]
    rw [e]; exact hB1
  clear hB1 hB
  have hbr1 : Below g W w1 := hw1.1
  have hX1 : w1.cell? ⟨w.heap.size, 1, none⟩ = some (.slice A n n') := by rw [World.cell?, (hbr1.block _ hz1).trans HX.out]; rfl
  go_wp2
  go_loopw [6, 22] (fun _ i wr => ∃ k : Nat, k ≤ n ∧ i = .int .i64 k ∧ Bld wr g (toolL a ++ (a.commands.take k).flatMap cmdL) ∧ Below g W wr) (fun _ i _ => n - (intOf i).toNat)
  case atStart => exact ⟨0, Nat.zero_le _, rfl, by simpa using hB2, hbr1⟩
  case round =>
    clear hB2 hbr1 hX1 hw1
    obtain ⟨k, hk, rfl, hBr, hbr⟩ := hrel
    have hgr : g < wr.heap.size := hBr.lt
    have hlen : (toolL a ++ (a.commands.take k).flatMap cmdL).length ≤ 1000000 := by have := len_cons (toolL_length ok) (cmds_length ok k); omega
    by_cases hlt : k < n
    · obtain ⟨b, o, x, A', l', c', rfl, hb, hx, hlc, hcm, hsl', c0⟩ := (hfc.keep (keep_lt hbr)).row hlt
      have hbg : b < g := hb
      have hbw : b < wr.heap.size := by omega
      have hok := ok.words x (List.mem_of_getElem? hx)
      have hjl := cmdL_length hok
      have HX2 := Lib.hid hx; clear hx
      have hl1 := hsl'.1
      go_wp2_with fail
      refine (join_any _ _ _ x _ (hsl'.more (lt_mono (Nat.le_of_lt hgr))) hlc (by omega) (by omega)).mono ?_
      rintro e w2 ⟨rfl, hb2⟩
      have hBx := hBr.call hb2
      have hbx := below_call (show g ≤ W.heap.size by omega) hbr hb2
      go_wp2_with fail
      refine (line_call2 g _ ⟨#[100, 111]⟩ ⟨(joinS x).toArray⟩ w2 hBx (by decide) (by show (joinS x).toArray.size ≤ _; simp; omega) (by omega)).mono ?_
      rintro e w3 ⟨rfl, hB3, hw3⟩
      clear hl1 hjl hok
      go_wp2
      go_round
      case rel =>
        refine ⟨k + 1, by omega, by go_num, ?_, below_wrote hbx hw3⟩
        rw [flatMap_succ HX2.out, ← List.append_assoc, cmdL]
        exact hB3
      case measure => simp [intOf]; omega
    · have HF := Lib.hid (show a.commands.take k = a.commands from List.take_of_length_le (by rw [hfc.1]; omega))
      have hlen2 : (toolL a ++ a.commands.flatMap cmdL).length ≤ 1000000 := by rw [HF.out] at hlen; exact hlen
      rw [HF.out] at hBr
      have HLL := Lib.hid (show toolL a ++ a.commands.flatMap cmdL ++ a.vars.flatMap varL ++ a.outputs.flatMap outL ++ a.needs.flatMap needL ++ timeL a = actTextL a from rfl)
      generalize toolL a ++ a.commands.flatMap cmdL = L1 at *
      clear hlen
      have hX1 : wr.cell? ⟨w.heap.size, 2, none⟩ = some (.slice B m m') := by rw [World.cell?, (hbr.block _ hz1).trans HX.out]; rfl
      go_wp2
      go_loopw [8, 35] (fun _ i wr => ∃ k : Nat, k ≤ m ∧ i = .int .i64 k ∧ Bld wr g (L1 ++ (a.vars.take k).flatMap varL) ∧ Below g W wr) (fun _ i _ => m - (intOf i).toNat)
      case atStart => exact ⟨0, Nat.zero_le _, rfl, by simpa using hBr, hbr⟩
      case round =>
        clear hBr hbr hX1 hgr
        obtain ⟨k, hk, rfl, hBr, hbr⟩ := hrel
        have hgr : g < wr.heap.size := hBr.lt
        have hlen : (L1 ++ (a.vars.take k).flatMap varL).length ≤ 1100000 := by have := len_cons hlen2 (vars_length ok k); omega
        by_cases hlt : k < m
        · obtain ⟨b, o, x, rfl, hb, hx, hs1, hs2, c0, c1⟩ := (hfv.keep (keep_lt hbr)).var hlt
          have hbg : b < g := hb
          have hbw : b < wr.heap.size := by omega
          have hok := ok.var x (List.mem_of_getElem? hx)
          have HX2 := Lib.hid hx; clear hx
          go_wp2_with fail
          rw [show wr.heap.size + 1 = (wr.alloc (.cells #[.string x.name, .string x.value] 47)).heap.size by simp]
          refine (line_call3 g _ ⟨#[118, 97, 114]⟩ x.name x.value (wr.alloc (.cells #[.string x.name, .string x.value] 47)) (hBr.alloc _) (by decide) (by omega) (by omega) (by omega)).mono ?_
          rintro e w3 ⟨rfl, hB3, hw3⟩
          clear hok
          go_wp2
          go_round
          case rel =>
            refine ⟨k + 1, by omega, by go_num, ?_, below_wrote (hbr.alloc (Nat.le_of_lt hgr) _) hw3⟩
            rw [flatMap_succ HX2.out, ← List.append_assoc, varL]
            exact hB3
          case measure => simp [intOf]; omega
        · have HF := Lib.hid (show a.vars.take k = a.vars from List.take_of_length_le (by rw [hfv.1]; omega))
          have hlen3 : (L1 ++ a.vars.flatMap varL).length ≤ 1100000 := by rw [HF.out] at hlen; exact hlen
          clear hlen2
          have hlen2 := hlen3
          clear hlen3
          rw [HF.out] at hBr
          generalize L1 ++ a.vars.flatMap varL = L2 at *
          clear hlen
          have hX1 : wr.cell? ⟨w.heap.size, 3, none⟩ = some (.slice C p p') := by rw [World.cell?, (hbr.block _ hz1).trans HX.out]; rfl
          go_wp2
          go_loopw [10, 50] (fun _ i wr => ∃ k : Nat, k ≤ p ∧ i = .int .i64 k ∧ Bld wr g (L2 ++ (a.outputs.take k).flatMap outL) ∧ Below g W wr) (fun _ i _ => p - (intOf i).toNat)
          case atStart => exact ⟨0, Nat.zero_le _, rfl, by simpa using hBr, hbr⟩
          case round =>
            clear hBr hbr hX1 hgr
            obtain ⟨k, hk, rfl, hBr, hbr⟩ := hrel
            have hgr : g < wr.heap.size := hBr.lt
            have hlen : (L2 ++ (a.outputs.take k).flatMap outL).length ≤ 1200000 := by have := len_cons hlen2 (outs_length ok k); omega
            by_cases hlt : k < p
            · obtain ⟨b, o, x, rfl, hb, hx, hxs, c0⟩ := (hfo.keep (keep_lt hbr)).str hlt
              have hbg : b < g := hb
              have hbw : b < wr.heap.size := by omega
              have hok := ok.output x (List.mem_of_getElem? hx)
              have HX2 := Lib.hid hx; clear hx
              go_wp2_with fail
              refine (line_call2 g _ ⟨#[111, 117, 116]⟩ x wr hBr (by decide) (by omega) (by omega)).mono ?_
              rintro e w3 ⟨rfl, hB3, hw3⟩
              clear hok
              go_wp2
              go_round
              case rel =>
                refine ⟨k + 1, by omega, by go_num, ?_, below_wrote hbr hw3⟩
                rw [flatMap_succ HX2.out, ← List.append_assoc, outL]
                exact hB3
              case measure => simp [intOf]; omega
            · have HF := Lib.hid (show a.outputs.take k = a.outputs from List.take_of_length_le (by rw [hfo.1]; omega))
              have hlen3 : (L2 ++ a.outputs.flatMap outL).length ≤ 1200000 := by rw [HF.out] at hlen; exact hlen
              clear hlen2
              have hlen2 := hlen3
              clear hlen3
              rw [HF.out] at hBr
              generalize L2 ++ a.outputs.flatMap outL = L3 at *
              clear hlen
              have hX1 : wr.cell? ⟨w.heap.size, 4, none⟩ = some (.slice D q q') := by rw [World.cell?, (hbr.block _ hz1).trans HX.out]; rfl
              go_wp2
              go_loopw [12, 62] (fun _ i wr => ∃ k : Nat, k ≤ q ∧ i = .int .i64 k ∧ Bld wr g (L3 ++ (a.needs.take k).flatMap needL) ∧ Below g W wr) (fun _ i _ => q - (intOf i).toNat)
              case atStart => exact ⟨0, Nat.zero_le _, rfl, by simpa using hBr, hbr⟩
              case round =>
                clear hBr hbr hX1 hgr
                obtain ⟨k, hk, rfl, hBr, hbr⟩ := hrel
                have hgr : g < wr.heap.size := hBr.lt
                have hlen : (L3 ++ (a.needs.take k).flatMap needL).length ≤ 1300000 := by have := len_cons hlen2 (needs_length ok k); omega
                by_cases hlt : k < q
                · obtain ⟨b, o, x, rfl, hb, hx, hs1, hs2, c0, c1⟩ := (hfn.keep (keep_lt hbr)).var hlt
                  have hbg : b < g := hb
                  have hbw : b < wr.heap.size := by omega
                  have hok := ok.need x (List.mem_of_getElem? hx)
                  have HX2 := Lib.hid hx; clear hx
                  go_wp2_with fail
                  rw [show wr.heap.size + 1 = (wr.alloc (.cells #[.string x.name, .string x.value] 47)).heap.size by simp]
                  refine (line_call3 g _ ⟨#[110, 101, 101, 100]⟩ x.name x.value (wr.alloc (.cells #[.string x.name, .string x.value] 47)) (hBr.alloc _) (by decide) (by omega) (by omega) (by omega)).mono ?_
                  rintro e w3 ⟨rfl, hB3, hw3⟩
                  clear hok
                  go_wp2
                  go_round
                  case rel =>
                    refine ⟨k + 1, by omega, by go_num, ?_, below_wrote (hbr.alloc (Nat.le_of_lt hgr) _) hw3⟩
                    rw [flatMap_succ HX2.out, ← List.append_assoc, needL]
                    exact hB3
                  case measure => simp [intOf]; omega
                · have HF := Lib.hid (show a.needs.take k = a.needs from List.take_of_length_le (by rw [hfn.1]; omega))
                  have hlen3 : (L3 ++ a.needs.flatMap needL).length ≤ 1300000 := by rw [HF.out] at hlen; exact hlen
                  clear hlen2
                  have hlen2 := hlen3
                  clear hlen3
                  rw [HF.out] at hBr
                  generalize L3 ++ a.needs.flatMap needL = L4 at *
                  clear hlen
                  have hX1 : wr.cell? ⟨w.heap.size, 5, none⟩ = some (.int .i64 a.time) := by rw [World.cell?, (hbr.block _ hz1).trans HX.out]; rfl
                  obtain ⟨s1, k1, E1, C1⟩ := itoa_op a.time htn
                  have HEr := HEn.out _ hbr
                  go_wp2_with fail
                  refine (C1.out _ HEr).mono ?_
                  rintro e w2 ⟨rfl, hb2⟩
                  have hBx := hBr.call hb2
                  have hbx := below_call (show g ≤ W.heap.size by omega) hbr hb2
                  go_wp2_with fail
                  refine (line_call2 g _ ⟨#[116, 105, 109, 101]⟩ s1 w2 hBx (by decide) (by omega) (by omega)).mono ?_
                  rintro e w3 ⟨rfl, hB3, hw3⟩
                  go_wp2_with fail
                  refine (bld_String g _ _ hB3).mono ?_
                  rintro e w4 ⟨rfl, hB4, hw4⟩
                  go_wp2
                  go_ret
                  exact ⟨ret_strL (by rw [← HLL.out, timeL, ← E1.out]; rfl), hbel2.trans (((below_wrote hbx hw3).trans hw4.1).mono hgw)⟩
end Go.Proofs.Sm

namespace Go.Proofs.Sm
open Go.RowKit

end Go.Proofs.Sm

namespace Go.Proofs.Sm
open Go.RowKit

/-- the text of an action; none when it is wrong -/
def actTextS (a : ActionV) : ByteArray := if checkActionS a = 0 then ⟨(actTextL a).toArray⟩ else ⟨#[]⟩
theorem actText_length {a : ActionV} (ok : ActOk a) : (actTextL a).length ≤ 2000000 := by
  have h1 := toolL_length ok
  have h2 := cmds_length ok a.commands.length
  have h3 := vars_length ok a.vars.length
  have h4 := outs_length ok a.outputs.length
  have h5 := needs_length ok a.needs.length
  rw [List.take_length] at h2 h3 h4 h5
  have h6 := Lib.itoa_length_le a.time (by have := ok.time; omega) (by have := ok.time; omega)
  simp only [actTextL, timeL, List.length_append, List.length_cons, List.length_nil] at h1 h2 h3 h4 h5 ⊢
  omega
set_option maxHeartbeats 1000000 in
set_option maxRecDepth 100000 in
theorem act_Text (a : ActionV) (A : Option Addr) (n n' : Nat) (B : Option Addr) (m m' : Nat) (C : Option Addr) (p p' : Nat) (D : Option Addr) (q q' : Nat) (w : World) (hE : Env2 w) (ha : ActIs w a A n B m C p D q) :
    Calls Tryz.prog 9 #[actVal a A n n' B m m' C p p' D q q'] w fun e w' => e = .returned (.tuple #[.string (actTextS a), .int .i64 (checkActionS a)]) ∧ Below w.heap.size w w' := by
  have hv : actVal a A n n' B m m' C p p' D q q' = .agg #[.string a.tool, .slice A n n', .slice B m m', .slice C p p', .slice D q q', .int .i64 a.time] := rfl
  have C1 := Lib.hid (fun w' (hb : Below w.heap.size w w') => act_CheckAction a A n n' B m m' C p p' D q q' w' (hE.then_ hb).toEnv (ha.then_ hb))
  have C2 := Lib.hid (fun w' (hb : Below w.heap.size w w') ok => act_text a A n n' B m m' C p p' D q q' w' (hE.then_ hb) (ha.then_ hb) ok)
  rw [hv] at C1 C2 ⊢
  clear hv
  go_enter Tryz.func9, Tryz.ntmps9
  go_wp2_with fail
  refine (C1.out _ (fr_alloc (fr_refl w) _)).mono ?_
  rintro e w1 ⟨rfl, hb1⟩
  have hz1 := grew hb1
  obtain ⟨hc1, hf1⟩ := bcell hb1
  have hbel1 := fr_box (fr_refl w) hb1
  clear hb1
  cases h0 : (checkActionS a == 0)
  · have hne : checkActionS a ≠ 0 := by simpa using h0
    have hbn : (checkActionS a != 0) = true := by simpa using h0
    have HN := Lib.hid hne; clear hne
    go_wp2
    go_ret2
    exact ⟨ret_pair (by rw [actTextS, if_neg HN.out]; rfl) rfl, hbel1⟩
  · have hz : checkActionS a = 0 := by simpa using h0
    have hbn : (checkActionS a != 0) = false := by simpa using h0
    have ok := checkAction_ok hz
    have HZ := Lib.hid hz; clear hz
    go_wp2_with fail
    refine (C2.out _ hbel1 ok).mono ?_
    rintro e w2 ⟨rfl, hb2⟩
    go_wp2
    go_ret2
    exact ⟨ret_pair (by rw [actTextS, if_pos HZ.out]; rfl) (congrArg (Value.int .i64) HZ.out.symm), fr_call hbel1 hb2⟩
end Go.Proofs.Sm

namespace Go.Proofs.Sm
open Go.RowKit

theorem bytes_eq {a b : ByteArray} (h : a.data.toList = b.data.toList) : a = b := by
  obtain ⟨⟨x⟩⟩ := a
  obtain ⟨⟨y⟩⟩ := b
  simp at h
  rw [h]
/-- a word that can stand in a line -/
structure Word (x : List UInt8) : Prop where
  some : x ≠ []
  blank : 32 ∉ x
  line : 10 ∉ x
theorem all_word {p : UInt8 → Bool} {x : List UInt8} (hne : x ≠ []) (h : x.all p = true) (h1 : p 32 = false) (h2 : p 10 = false) : Word x where
  some := hne
  blank hm := by have := List.all_eq_true.1 h _ hm; rw [h1] at this; cases this
  line hm := by have := List.all_eq_true.1 h _ hm; rw [h2] at this; cases this
theorem join_lineless {ws : List (List UInt8)} (h : ∀ x ∈ ws, 10 ∉ x) : (10 : UInt8) ∉ Lib.join ws [32] := by
  cases ws with
  | nil => simp [Lib.join_nil]
  | cons a r =>
    rw [Lib.join_cons]
    simp only [List.mem_append, not_or]
    refine ⟨h a (by simp), ?_⟩
    intro hm
    simp only [Lib.joinTail, List.mem_flatten, List.mem_map] at hm
    obtain ⟨l, ⟨y, hy, rfl⟩, hl⟩ := hm
    rcases List.mem_append.1 hl with h1 | h1
    · revert h1; decide
    · exact h y (by simp [hy]) h1
theorem map_bytes : ∀ {l m : List ByteArray}, l.map (·.data.toList) = m.map (·.data.toList) → l = m
  | [], [], _ => rfl
  | [], _ :: _, h => by simp at h
  | _ :: _, [], h => by simp at h
  | a :: l, b :: m, h => by
    simp only [List.map_cons, List.cons.injEq] at h
    rw [bytes_eq h.1, map_bytes h.2]
theorem row_of {T : ByteArray} {pre rest : List UInt8} {ws : List ByteArray} (hT : T.data.toList = pre ++ (Lib.join (ws.map (·.data.toList)) [32] ++ 10 :: rest)) (hne : ws ≠ []) (hw : ∀ x ∈ ws, Word x.data.toList) :
    rowS T pre.length = some (ws, pre.length + (Lib.join (ws.map (·.data.toList)) [32]).length + 1) := by
  have hd : (restB T pre.length).data.toList = Lib.join (ws.map (·.data.toList)) [32] ++ 10 :: rest := by rw [restB_data, hT]; simp
  have hnl : 10 ∉ Lib.join (ws.map (·.data.toList)) [32] := join_lineless (by
    intro x hx
    obtain ⟨y, hy, rfl⟩ := List.mem_map.1 hx
    exact (hw y hy).line)
  have hc := cut_some (t := rest) hnl
  have h1 : hasLine T pre.length = true := by rw [hasLine, hd, hc]
  have h2 : lineB T pre.length = ⟨(Lib.join (ws.map (·.data.toList)) [32]).toArray⟩ := by rw [lineB, hd, hc]
  have h3 : wordsOf (lineB T pre.length) = ws := by
    have h4 := wordsOf_data (lineB T pre.length)
    have h5 : (lineB T pre.length).data.toList = Lib.join (ws.map (·.data.toList)) [32] := by rw [h2]
    rw [h5, join_pieces (by simpa using hne) (by
      intro x hx
      obtain ⟨y, hy, rfl⟩ := List.mem_map.1 hx
      exact (hw y hy).blank)] at h4
    exact map_bytes h4
  have h6 : noneEmpty (wordsOf (lineB T pre.length)) = true := by
    rw [h3, noneEmpty, Bool.not_eq_true', List.any_eq_false]
    intro x hx e
    exact (hw x hx).some (List.isEmpty_iff.1 e)
  have h7 : (lineB T pre.length).size = (Lib.join (ws.map (·.data.toList)) [32]).length := by rw [h2]; simp [ByteArray.size]
  rw [rowS, h1, h6, h3, h7]
  rfl

/-! ### Words of lines -/
theorem part_word {c : UInt8} (h : partB c = true) : c ≠ 32 ∧ c ≠ 10 := by
  constructor <;> (intro e; subst e; revert h; decide)
theorem splitK_join (c : UInt8) (l : List UInt8) : Lib.join (Lib.splitK [c] 0 (Lib.count l [c]) l) [c] = l := by rw [splitK_pieces c _ l (Nat.le_refl _), pieces_join]
theorem path_bytes {s : ByteArray} (h : isPathS s = true) : ∀ c ∈ s.data.toList, partB c = true ∨ c = 47 := by
  rw [isPathS_eq, Bool.and_eq_true] at h
  have h1 : (partsS s).map (·.data.toList) = piecesL 47 s.data.toList := by
    rw [partsS, Lib.splitB_data]
    exact splitK_pieces 47 _ _ (Nat.le_refl _)
  have h2 : s.data.toList = Lib.join ((partsS s).map (·.data.toList)) [47] := by rw [h1, pieces_join]
  intro c hc
  rw [h2] at hc
  have hall : ∀ x ∈ (partsS s).map (·.data.toList), ∀ c ∈ x, partB c = true := by
    intro x hx c hc
    obtain ⟨y, hy, rfl⟩ := List.mem_map.1 hx
    have h3 := List.all_eq_true.1 h.2 y hy
    simp only [isPartS, Bool.and_eq_true] at h3
    exact List.all_eq_true.1 h3.1.1.1 c hc
  cases hm : (partsS s).map (·.data.toList) with
  | nil => rw [hm, Lib.join_nil] at hc; cases hc
  | cons a r =>
    rw [hm] at hc hall
    rw [Lib.join_cons] at hc
    rcases List.mem_append.1 hc with h3 | h3
    · exact .inl (hall a (by simp) c h3)
    · simp only [Lib.joinTail, List.mem_flatten, List.mem_map] at h3
      obtain ⟨l, ⟨y, hy, rfl⟩, hl⟩ := h3
      rcases List.mem_append.1 hl with h4 | h4
      · exact .inr (by simpa using h4)
      · exact .inl (hall y (by simp [hy]) c h4)
theorem path_word {s : ByteArray} (h : isPathS s = true) : Word s.data.toList where
  some e := by
    rw [isPathS_eq, Bool.and_eq_true] at h
    have h1 := withinB_true h.1
    have h2 := congrArg List.length e
    have h3 : s.data.toList.length = s.size := by simp
    simp only [List.length_nil] at h2
    omega
  blank hm := by
    rcases path_bytes h _ hm with h1 | h1
    · exact (part_word h1).1 rfl
    · revert h1; decide
  line hm := by
    rcases path_bytes h _ hm with h1 | h1
    · exact (part_word h1).2 rfl
    · revert h1; decide
theorem digest_word {s : ByteArray} (h : s.toList.isEmpty = true ∨ isDigestS s = true) : Word (digestOr s) := by
  rw [digestOr]
  split
  · exact ⟨by simp, by decide, by decide⟩
  · rename_i hn
    rcases h with h | h
    · rw [Lib.toList_data] at h; exact absurd h hn
    · rw [isDigestS, Bool.and_eq_true] at h
      exact all_word (by simpa using hn) h.1 (by decide) (by decide)
theorem sign_word (r : Bool) : Word (signB r) := by cases r <;> exact ⟨by simp [signB], by decide, by decide⟩
theorem itoa_word (n : Nat) : Word (Lib.itoa (n : Int)) := by
  have e : ((n : Nat) : Int).toNat = n := by omega
  rw [Lib.itoa, if_neg (by omega), e]
  exact all_word (digits_ne n) (digits_all n) (by decide) (by decide)

/-! ### Read as it was written -/
theorem isX_sign (r : Bool) : isX ⟨(signB r).toArray⟩ = r := by cases r <;> rfl
theorem isRun_sign (r : Bool) : isRunS ⟨(signB r).toArray⟩ = true := by cases r <;> rfl
theorem digest_ne_dash {s : ByteArray} (h : s.toList.isEmpty = true ∨ isDigestS s = true) : undash ⟨(digestOr s).toArray⟩ = s := by
  rw [undash, digestOr]
  split
  · rename_i hd
    have : s.data.toList = [] := by simpa using hd
    simp only
    exact bytes_eq (by simp [this])
  · rename_i hd
    rcases h with h | h
    · rw [Lib.toList_data] at h; exact absurd h hd
    · rw [isDigestS, Bool.and_eq_true] at h
      have h1 : s.data.toList ≠ [45] := by
        intro e
        have := h.1
        rw [e] at this
        revert this; decide
      have h2 : ((⟨s.data.toList.toArray⟩ : ByteArray).data.toList == [45]) = false := by simpa using h1
      simp only [h2, Bool.false_eq_true, if_false]
theorem numS_itoa (n : Nat) (h : n < 1000000000) : isNumberS ⟨(Lib.itoa (n : Int)).toArray⟩ 9 = true ∧ numS ⟨(Lib.itoa (n : Int)).toArray⟩ = n :=
  text_number (k := 9) (by simp) (by omega) (by decide)
theorem look_read {T : ByteArray} {pre rest : List UInt8} {x : Look} {fs : List FileV} {ls : List Look} (hT : T.data.toList = pre ++ (lookLineS x ++ rest))
    (hx : isPathS x.path = true ∧ (x.digest.toList.isEmpty = true ∨ isDigestS x.digest = true)) :
    stepS T ⟨pre.length, fs, ls⟩ = .ok ⟨pre.length + (lookLineS x).length, fs, ls ++ [x]⟩ := by
  have hj : Lib.join (([⟨lookW.toArray⟩, x.path, ⟨(digestOr x.digest).toArray⟩, ⟨(signB x.run).toArray⟩] : List ByteArray).map (·.data.toList)) [32] ++ [10] = lookLineS x := by
    simp [Lib.join_cons, Lib.joinTail, lookLineS, lookW]
  have hr := row_of (T := T) (pre := pre) (rest := rest) (ws := [⟨lookW.toArray⟩, x.path, ⟨(digestOr x.digest).toArray⟩, ⟨(signB x.run).toArray⟩]) (by rw [hT, ← hj]; simp) (by simp) (by
    intro y hy
    simp only [List.mem_cons, List.not_mem_nil, or_false] at hy
    rcases hy with rfl | rfl | rfl | rfl
    · exact ⟨by decide, by decide, by decide⟩
    · exact path_word hx.1
    · exact digest_word hx.2
    · exact sign_word x.run)
  have hlen : (Lib.join (([⟨lookW.toArray⟩, x.path, ⟨(digestOr x.digest).toArray⟩, ⟨(signB x.run).toArray⟩] : List ByteArray).map (·.data.toList)) [32]).length + 1 = (lookLineS x).length := by rw [← hj]; simp
  have hl := lineIs_of (word := lookW) (many := 4) hr rfl rfl
  have hf : lineIs T pre.length fileW 4 = none := by
    rw [lineIs, hr]
    rfl
  rw [stepS, hf, if_neg (by simp), lookStep, hl]
  simp only [isRun_sign, isX_sign, digest_ne_dash hx.2, if_true]
  rw [← hlen]
  simp only [Nat.add_assoc]
theorem file_read {T : ByteArray} {pre rest : List UInt8} {x : FileV} {fs : List FileV} (hT : T.data.toList = pre ++ (fileTextS x ++ rest)) (hx : isPathS x.path = true ∧ x.bytes.length ≤ 100000) :
    stepS T ⟨pre.length, fs, []⟩ = .ok ⟨pre.length + (fileTextS x).length, fs ++ [x], []⟩ := by
  have hj : Lib.join (([⟨fileW.toArray⟩, x.path, ⟨(signB x.run).toArray⟩, ⟨(Lib.itoa x.bytes.length).toArray⟩] : List ByteArray).map (·.data.toList)) [32] ++ [10] = fileHeadS x := by
    simp [Lib.join_cons, Lib.joinTail, fileHeadS, fileW]
  have hr := row_of (T := T) (pre := pre) (rest := x.bytes ++ [10] ++ rest) (ws := [⟨fileW.toArray⟩, x.path, ⟨(signB x.run).toArray⟩, ⟨(Lib.itoa x.bytes.length).toArray⟩]) (by rw [hT, fileTextS, ← hj]; simp) (by simp) (by
    intro y hy
    simp only [List.mem_cons, List.not_mem_nil, or_false] at hy
    rcases hy with rfl | rfl | rfl | rfl
    · exact ⟨by decide, by decide, by decide⟩
    · exact path_word hx.1
    · exact sign_word x.run
    · exact itoa_word _)
  have hlen : (Lib.join (([⟨fileW.toArray⟩, x.path, ⟨(signB x.run).toArray⟩, ⟨(Lib.itoa x.bytes.length).toArray⟩] : List ByteArray).map (·.data.toList)) [32]).length + 1 = (fileHeadS x).length := by rw [← hj]; simp
  have hq : ∀ q, q = pre.length + (Lib.join (([⟨fileW.toArray⟩, x.path, ⟨(signB x.run).toArray⟩, ⟨(Lib.itoa x.bytes.length).toArray⟩] : List ByteArray).map (·.data.toList)) [32]).length + 1 → q = pre.length + (fileHeadS x).length := by
    intro q hq; rw [hq, ← hlen]; omega
  rw [hq _ rfl] at hr
  have hl := lineIs_of (word := fileW) (many := 4) hr rfl rfl
  obtain ⟨n1, n2⟩ := numS_itoa x.bytes.length (by omega)
  have e0 : T.data.toList.length = T.size := by simp
  have hd : T.data.toList.drop (pre.length + (fileHeadS x).length) = x.bytes ++ 10 :: rest := by
    rw [hT, fileTextS, ← List.append_assoc, ← List.append_assoc, ← List.append_assoc, ← List.length_append]
    simp [List.append_assoc]
  have hsz : pre.length + (fileHeadS x).length + x.bytes.length ≤ T.size := by
    have := congrArg List.length hT
    rw [e0] at this
    simp only [fileTextS, List.length_append, List.length_cons, List.length_nil] at this
    omega
  have h10 : T.data.toList[pre.length + (fileHeadS x).length + x.bytes.length]? = some 10 := by
    rw [← List.getElem?_drop, hd]; simp
  rw [stepS, hl, if_pos (by rfl), fileStep]
  simp only [hl, isRun_sign, n1, n2, Bool.and_self, if_true]
  rw [fileBody, if_neg (by omega), if_pos h10, hd]
  simp only [isX_sign, List.take_left]
  have hlen2 : pre.length + (fileHeadS x).length + x.bytes.length + 1 = pre.length + (fileTextS x).length := by
    simp only [fileTextS, List.length_append, List.length_cons, List.length_nil]; omega
  rw [hlen2]
theorem looks_read {T : ByteArray} {fs : List FileV} : ∀ (l : List Look) (pre : List UInt8) (done : List Look), T.data.toList = pre ++ l.flatMap lookLineS →
    (∀ x ∈ l, isPathS x.path = true ∧ (x.digest.toList.isEmpty = true ∨ isDigestS x.digest = true)) → runS T ⟨pre.length, fs, done⟩ = .ok ⟨T.size, fs, done ++ l⟩
  | [], pre, done, hT, _ => by
    have e0 : T.data.toList.length = T.size := by simp
    have h1 := congrArg List.length hT
    rw [e0, List.length_append, List.flatMap_nil, List.length_nil] at h1
    rw [run_end (by show T.size ≤ pre.length; omega), List.append_nil, show pre.length = T.size by omega]
  | x :: l, pre, done, hT, hx => by
    rw [List.flatMap_cons] at hT
    have hs := look_read (fs := fs) (ls := done) hT (hx x (by simp))
    have hp := step_place hs
    rw [run_round (Nat.lt_of_lt_of_le hp.1 hp.2) hs, ← List.length_append]
    rw [looks_read l (pre ++ lookLineS x) (done ++ [x]) (by rw [hT]; simp) (fun y hy => hx y (by simp [hy]))]
    simp
theorem files_read {T : ByteArray} : ∀ (l : List FileV) (pre rest : List UInt8) (done : List FileV), T.data.toList = pre ++ (l.flatMap fileTextS ++ rest) →
    (∀ x ∈ l, isPathS x.path = true ∧ x.bytes.length ≤ 100000) → runS T ⟨pre.length, done, []⟩ = runS T ⟨(pre ++ l.flatMap fileTextS).length, done ++ l, []⟩
  | [], pre, rest, done, hT, _ => by simp
  | x :: l, pre, rest, done, hT, hx => by
    rw [List.flatMap_cons, List.append_assoc] at hT
    have hs := file_read (fs := done) hT (hx x (by simp))
    have hp := step_place hs
    rw [run_round (Nat.lt_of_lt_of_le hp.1 hp.2) hs, ← List.length_append]
    rw [files_read l (pre ++ fileTextS x) rest (done ++ [x]) (by rw [hT]; simp) (fun y hy => hx y (by simp [hy]))]
    simp
theorem files_paths {l : List FileV} (h : checkFilesS l = 0) : ∀ x ∈ l, isPathS x.path = true ∧ x.bytes.length ≤ 100000 := by
  have h1 := (checkFiles_err h).2.1
  intro x hx
  obtain ⟨i, hi⟩ := List.getElem?_of_mem hx
  have := filesErr_step none h1 i x hi
  exact this.2
theorem checkResult_parts {r : ResultV} (h : checkResultS r = 0) : (0 ≤ r.code ∧ r.code ≤ 999999 ∧ 0 ≤ r.command ∧ r.command ≤ 50) ∧ r.text.size ≤ 100000 ∧ checkFilesS r.files = 0 ∧ checkLooksS r.looks = 0 := by
  unfold checkResultS at h
  split at h
  · cases h
  rename_i h1
  split at h
  · cases h
  rename_i h2
  split at h
  · cases h
  split at h
  · contradiction
  rename_i h3
  split at h
  · cases h
  refine ⟨?_, by omega, by simpa using h3, h⟩
  simp only [Bool.not_eq_false, Bool.and_eq_true] at h1
  have a := withinB_true h1.1
  have b := withinB_true h1.2
  omega
theorem result_back {r : ResultV} (h : checkResultS r = 0) : readB ⟨(resultTextL r).toArray⟩ = .ok r := by
  obtain ⟨⟨c0, c1, d0, d1⟩, ht, hf, hl⟩ := checkResult_parts h
  generalize hT0 : (⟨(resultTextL r).toArray⟩ : ByteArray) = T
  have hT : T.data.toList = resultTextL r := by rw [← hT0]
  obtain ⟨c, hc⟩ : ∃ c : Nat, r.code = (c : Int) := ⟨r.code.toNat, by omega⟩
  obtain ⟨d, hd⟩ : ∃ d : Nat, r.command = (d : Int) := ⟨r.command.toNat, by omega⟩
  have hj1 : Lib.join (([⟨codeW.toArray⟩, ⟨(Lib.itoa (c : Int)).toArray⟩, ⟨(Lib.itoa (d : Int)).toArray⟩] : List ByteArray).map (·.data.toList)) [32] = codeW ++ [32] ++ Lib.itoa c ++ [32] ++ Lib.itoa d := by
    simp [Lib.join_cons, Lib.joinTail]
  have hj2 : Lib.join (([⟨textW.toArray⟩, ⟨(Lib.itoa (r.text.size : Int)).toArray⟩] : List ByteArray).map (·.data.toList)) [32] = textW ++ [32] ++ Lib.itoa r.text.size := by
    simp [Lib.join_cons, Lib.joinTail]
  have hhead : headTextS r = (codeW ++ [32] ++ Lib.itoa c ++ [32] ++ Lib.itoa d ++ [10]) ++ ((textW ++ [32] ++ Lib.itoa r.text.size ++ [10]) ++ r.text.data.toList) := by
    simp [headTextS, codeW, textW, hc, hd]
  have hr1 := row_of (T := T) (pre := []) (rest := (textW ++ [32] ++ Lib.itoa r.text.size ++ [10]) ++ r.text.data.toList ++ r.files.flatMap fileTextS ++ r.looks.flatMap lookLineS)
    (ws := [⟨codeW.toArray⟩, ⟨(Lib.itoa (c : Int)).toArray⟩, ⟨(Lib.itoa (d : Int)).toArray⟩]) (by rw [hT, hj1, resultTextL, hhead]; simp) (by simp) (by
    intro y hy
    simp only [List.mem_cons, List.not_mem_nil, or_false] at hy
    rcases hy with rfl | rfl | rfl
    · exact ⟨by decide, by decide, by decide⟩
    · exact itoa_word _
    · exact itoa_word _)
  rw [hj1] at hr1
  generalize hq : ([] : List UInt8).length + (codeW ++ [32] ++ Lib.itoa c ++ [32] ++ Lib.itoa d).length + 1 = q at hr1
  have hq' : (codeW ++ [32] ++ Lib.itoa c ++ [32] ++ Lib.itoa d ++ [10]).length = q := by rw [← hq]; simp only [List.length_append, List.length_cons, List.length_nil]; omega
  have hr2 := row_of (T := T) (pre := codeW ++ [32] ++ Lib.itoa c ++ [32] ++ Lib.itoa d ++ [10]) (rest := r.text.data.toList ++ r.files.flatMap fileTextS ++ r.looks.flatMap lookLineS)
    (ws := [⟨textW.toArray⟩, ⟨(Lib.itoa (r.text.size : Int)).toArray⟩]) (by rw [hT, hj2, resultTextL, hhead]; simp) (by simp) (by
    intro y hy
    simp only [List.mem_cons, List.not_mem_nil, or_false] at hy
    rcases hy with rfl | rfl
    · exact ⟨by decide, by decide, by decide⟩
    · exact itoa_word _)
  rw [hj2, hq'] at hr2
  generalize hq2 : q + (textW ++ [32] ++ Lib.itoa r.text.size).length + 1 = q2 at hr2
  obtain ⟨n1, n2⟩ := numS_itoa c (by omega)
  obtain ⟨n3, n4⟩ := numS_itoa d (by omega)
  obtain ⟨n5, n6⟩ := numS_itoa r.text.size (by omega)
  have hl1 := lineIs_of (word := codeW) (many := 3) hr1 rfl rfl
  have hl2 := lineIs_of (word := textW) (many := 2) hr2 rfl rfl
  have e0 : T.data.toList.length = T.size := by simp
  have et : r.text.data.toList.length = r.text.size := by simp
  have hpre : T.data.toList = ((codeW ++ [32] ++ Lib.itoa c ++ [32] ++ Lib.itoa d ++ [10]) ++ (textW ++ [32] ++ Lib.itoa r.text.size ++ [10])) ++ (r.text.data.toList ++ (r.files.flatMap fileTextS ++ r.looks.flatMap lookLineS)) := by
    rw [hT, resultTextL, hhead]; simp
  have hq3 : ((codeW ++ [32] ++ Lib.itoa c ++ [32] ++ Lib.itoa d ++ [10]) ++ (textW ++ [32] ++ Lib.itoa r.text.size ++ [10])).length = q2 := by
    rw [List.length_append, hq', ← hq2]; simp only [List.length_append, List.length_cons, List.length_nil]; omega
  have hsz : q2 + r.text.size ≤ T.size := by
    have := congrArg List.length hpre
    rw [List.length_append, hq3, e0, List.length_append, et] at this
    omega
  have hdrop : T.data.toList.drop q2 = r.text.data.toList ++ (r.files.flatMap fileTextS ++ r.looks.flatMap lookLineS) := by
    rw [hpre, ← hq3]; simp
  have hext : T.extract q2 (q2 + r.text.size) = r.text := by
    apply bytes_eq
    rw [Lib.extract_data, hdrop, show q2 + r.text.size - q2 = r.text.size by omega, ← et, List.take_left]
  have hhl : (headTextS r).length = q2 + r.text.size := by
    rw [hhead, ← List.append_assoc, List.length_append, hq3, et]
  have htop : topS T = .ok (c, d, r.text, q2 + r.text.size) := by
    rw [topS, show (0 : Nat) = ([] : List UInt8).length from rfl, hl1]
    simp only [n1, n3, n2, n4, Bool.and_self, if_true]
    rw [textS, hl2]
    simp only [n5, n6, if_true]
    rw [if_neg (by omega), hext]
  have hrun := files_read (T := T) r.files (headTextS r) (r.looks.flatMap lookLineS) [] (by rw [hT, resultTextL, List.append_assoc]) (files_paths hf)
  have hrun2 := looks_read (T := T) (fs := [] ++ r.files) r.looks (headTextS r ++ r.files.flatMap fileTextS) [] (by rw [hT, resultTextL]) (fun x hx => ⟨(looks_all hl x hx).1, (looks_all hl x hx).2.1⟩)
  rw [readB, htop]
  simp only
  rw [← hhl, hrun, hrun2]
  simp only [List.nil_append]
  rw [← hc, ← hd]

/-! ### Written as it was -/
theorem isX_text {c : ByteArray} (h : isRunS c = true) : signB (isX c) = c.data.toList := by
  rw [isRunS, Bool.or_eq_true] at h
  rcases h with h | h
  · rw [h]
    rw [isX, beq_iff_eq] at h
    rw [h]; rfl
  · have h1 : isX c = false := by
      rw [beq_iff_eq] at h
      rw [isX, h]; rfl
    rw [h1]
    rw [beq_iff_eq] at h
    rw [h]; rfl
theorem undash_text {b : ByteArray} (h : b.data.toList ≠ []) : digestOr (undash b) = b.data.toList := by
  rw [undash, digestOr]
  split
  · rename_i h1
    rw [beq_iff_eq] at h1
    rw [h1]; rfl
  · rw [if_neg (by simpa using h)]
theorem line_text {T : ByteArray} {p q many : Nat} {word : List UInt8} {ws : List ByteArray} (h : lineIs T p word many = some (ws, q)) :
    T.data.toList.drop p = word ++ Lib.joinTail [32] (ws.map (·.data.toList)) ++ 10 :: T.data.toList.drop q ∧ (∀ x ∈ ws, x.data.toList ≠ []) ∧ p < q ∧ q ≤ T.size := by
  obtain ⟨w, hr, hw, _⟩ := lineIs_some h
  obtain ⟨h1, _, h3, _⟩ := row_text hr
  refine ⟨?_, fun x hx => h3 x (by simp [hx]), row_place hr⟩
  rw [h1, List.map_cons, Lib.join_cons, hw]
theorem look_wrote {T : ByteArray} {st st' : RSt} (h : lookStep T st = .ok st') : ∃ x, st'.files = st.files ∧ st'.looks = st.looks ++ [x] ∧ T.data.toList.drop st.pos = lookLineS x ++ T.data.toList.drop st'.pos := by
  rw [lookStep] at h
  split at h
  · rename_i a b c q hl
    obtain ⟨h1, h2, _⟩ := line_text hl
    split at h
    · rename_i hc
      cases h
      refine ⟨_, rfl, rfl, ?_⟩
      rw [h1]
      simp [lookLineS, Lib.joinTail, lookW, isX_text hc, undash_text (h2 b (by simp))]
    · cases h
  · cases h
theorem file_wrote {T : ByteArray} {st st' : RSt} (h : fileStep T st = .ok st') : ∃ x, st'.files = st.files ++ [x] ∧ st'.looks = st.looks ∧ T.data.toList.drop st.pos = fileTextS x ++ T.data.toList.drop st'.pos := by
  rw [fileStep] at h
  split at h
  · rename_i a b c q hl
    obtain ⟨h1, h2, _, hq⟩ := line_text hl
    split at h
    · rename_i hc
      obtain ⟨hb, hn⟩ := Bool.and_eq_true_iff.1 hc
      rw [fileBody] at h
      split at h
      · cases h
      · rename_i hsz
        split at h
        · rename_i h10
          cases h
          refine ⟨_, rfl, rfl, ?_⟩
          have e0 : T.data.toList.length = T.size := by simp
          have hlen : ((T.data.toList.drop q).take (numS c)).length = numS c := by
            rw [List.length_take, List.length_drop, e0]; omega
          have hlast : T.data.toList.drop (q + numS c) = 10 :: T.data.toList.drop (q + numS c + 1) := by
            obtain ⟨hk, he⟩ := List.getElem?_eq_some_iff.1 h10
            rw [List.drop_eq_getElem_cons hk, he]
          have hq2 : T.data.toList.drop q = (T.data.toList.drop q).take (numS c) ++ 10 :: T.data.toList.drop (q + numS c + 1) := by
            conv => lhs; rw [← List.take_append_drop (numS c) (T.data.toList.drop q)]
            rw [List.drop_drop, hlast]
          simp only [fileTextS, fileHeadS, hlen, number_text hn, isX_text hb]
          generalize (T.data.toList.drop q).take (numS c) = B at hq2 ⊢
          rw [h1, hq2]
          simp [Lib.joinTail, fileW]
        · cases h
    · cases h
  · cases h
theorem loop_wrote {T : ByteArray} : ∀ (n : Nat) (st st' : RSt), T.size - st.pos ≤ n → loopS T n st = .ok st' →
    ∃ fs ls, st'.files = st.files ++ fs ∧ st'.looks = st.looks ++ ls ∧ T.data.toList.drop st.pos = fs.flatMap fileTextS ++ ls.flatMap lookLineS ∧ (st.looks ≠ [] → fs = [])
  | 0, st, st', hn, h => by
    cases h
    exact ⟨[], [], by simp, by simp, by
      have e0 : T.data.toList.length = T.size := by simp
      simp only [List.flatMap_nil, List.append_nil]
      rw [List.drop_eq_nil_of_le (by omega)], fun _ => rfl⟩
  | n + 1, st, st', hn, h => by
    rw [loopS] at h
    split at h
    · rename_i hp
      cases h
      exact ⟨[], [], by simp, by simp, by
        have e0 : T.data.toList.length = T.size := by simp
        simp only [List.flatMap_nil, List.append_nil]
        rw [List.drop_eq_nil_of_le (by omega)], fun _ => rfl⟩
    · split at h
      · cases h
      · rename_i st1 hs
        have hp := step_place hs
        obtain ⟨fs, ls, h1, h2, h3, h4⟩ := loop_wrote n st1 st' (by omega) h
        rw [stepS] at hs
        split at hs
        · rename_i hc
          obtain ⟨x, h5, h6, h7⟩ := file_wrote hs
          refine ⟨x :: fs, ls, by rw [h1, h5]; simp, by rw [h2, h6], by rw [h7, h3]; simp, fun hne => ?_⟩
          exact absurd (List.isEmpty_iff.1 (Bool.and_eq_true_iff.1 hc).2) hne
        · obtain ⟨x, h5, h6, h7⟩ := look_wrote hs
          have h8 := h4 (by rw [h6]; simp)
          subst h8
          exact ⟨[], x :: ls, by rw [h1, h5], by rw [h2, h6]; simp, by rw [h7, h3]; simp, fun _ => rfl⟩
theorem result_wrote {T : ByteArray} {r : ResultV} (h : readB T = .ok r) : resultTextL r = T.data.toList := by
  rw [readB] at h
  split at h
  · cases h
  · rename_i c d t p htop
    split at h
    · cases h
    · rename_i st hrun
      cases h
      obtain ⟨fs, ls, h1, h2, h3, _⟩ := loop_wrote _ _ _ (Nat.le_refl _) hrun
      simp only [List.nil_append] at h1 h2 h3
      rw [topS] at htop
      split at htop
      · rename_i a b q hl
        split at htop
        · rename_i hc
          obtain ⟨na, nb⟩ := Bool.and_eq_true_iff.1 hc
          rw [textS] at htop
          split at htop
          · rename_i a2 q2 hl2
            split at htop
            · rename_i n3
              split at htop
              · cases htop
              · rename_i hsz
                cases htop
                obtain ⟨t1, _, _, _⟩ := line_text hl
                obtain ⟨t2, _, _, hq2⟩ := line_text hl2
                have e0 : T.data.toList.length = T.size := by simp
                have hx : (T.extract q2 (q2 + numS a2)).data.toList = (T.data.toList.drop q2).take (numS a2) := by
                  rw [Lib.extract_data, show q2 + numS a2 - q2 = numS a2 by omega]
                have hxs : (T.extract q2 (q2 + numS a2)).size = numS a2 := by rw [ByteArray.size_extract]; omega
                have hlast : T.data.toList.drop q2 = (T.data.toList.drop q2).take (numS a2) ++ T.data.toList.drop (q2 + numS a2) := by
                  conv => lhs; rw [← List.take_append_drop (numS a2) (T.data.toList.drop q2)]
                  rw [List.drop_drop]
                rw [List.drop_zero] at t1
                rw [resultTextL, headTextS]
                simp only [hx, hxs, number_text na, number_text nb, number_text n3]
                generalize (T.data.toList.drop q2).take (numS a2) = B at hlast ⊢
                generalize hR : T.data.toList = R at t1 t2 hlast h3 ⊢
                have e1 : R = codeW ++ Lib.joinTail [32] ([a, b].map (·.data.toList)) ++ 10 :: (textW ++ Lib.joinTail [32] ([a2].map (·.data.toList)) ++ 10 :: (B ++ (fs.flatMap fileTextS ++ ls.flatMap lookLineS))) := by
                  rw [← h3, ← hlast, ← t2]; exact t1
                rw [h1, h2, e1]
                simp [Lib.joinTail, codeW, textW]
            · cases htop
          · cases htop
        · cases htop
      · cases htop
end Go.Proofs.Sm
