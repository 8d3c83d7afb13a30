/- Order and Sources are as specified, with all errors: the given statement, for all arguments; no condition. -/
import Derived.Test.YtogjdgpghpkgmaaGreatDoorH12x13
import Derived.Test.YtogjdgpghpkgmaaGreatDoorH10x7
import Derived.Test.YtogjdgpghpkgmaaGreatDoorCardZRC12
namespace Go.Proofs.Sm
open Go.RowKit

def srcOf (l : List RuleV) (ins : List ByteArray) : List (List UInt8) := (ins.filter fun p => (idxOut l p).isNone).map (·.data.toList)
def srcK (l : List RuleV) (out : List Nat) : List (List UInt8) := out.flatMap fun i => srcOf l (insAt l i)
theorem srcOf_yes {l : List RuleV} {ins : List ByteArray} {t : Nat} {p : ByteArray} (hp : ins[t]? = some p) (h : idxOut l p = none) : srcOf l (ins.take (t + 1)) = srcOf l (ins.take t) ++ [p.data.toList] := by
  rw [srcOf, List.take_add_one, hp, List.filter_append, List.map_append]
  simp [srcOf, h]
theorem srcOf_no {l : List RuleV} {ins : List ByteArray} {t j : Nat} {p : ByteArray} (hp : ins[t]? = some p) (h : idxOut l p = some j) : srcOf l (ins.take (t + 1)) = srcOf l (ins.take t) := by
  rw [srcOf, List.take_add_one, hp, List.filter_append, List.map_append]
  simp [srcOf, h]
theorem srcK_more {l : List RuleV} {out : List Nat} {k i : Nat} (hi : out[k]? = some i) : srcK l (out.take (k + 1)) = srcK l (out.take k) ++ srcOf l (insAt l i) := by
  rw [srcK, List.take_add_one, hi, List.flatMap_append]; simp [srcK]
theorem set_some (S : List (List UInt8)) (x key : List UInt8) : (setOf (S ++ [x]) key).isSome = true ↔ (setOf S key).isSome = true ∨ key = x := by
  unfold setOf
  by_cases h1 : key ∈ S <;> by_cases h2 : key = x <;> simp [h1, h2]
theorem keys_nil : KeysAre (setOf []) [] := ⟨List.Pairwise.nil, fun key => by simp [setOf], fun x hx => by simp at hx⟩
def SrcPost (l : List RuleV) (ws : List ByteArray) (w : World) (e : Ending) (w' : World) : Prop :=
  ∃ v, e = .returned (.tuple #[v, .int .i64 (planErr l ws)]) ∧ (planErr l ws ≠ 0 → v = .slice none 0 0) ∧ (planErr l ws = 0 → ∃ out L A c, PlanIs l ws out ∧ KeysAre (setOf (srcK l out)) L ∧ v = .slice A L.length c ∧ Sl w' (Lt w'.heap.size) A L.length L) ∧ Below w.heap.size w w'
theorem SrcPost.bad {l : List RuleV} {ws : List ByteArray} {w w' : World} {f : Int} (hf : planErr l ws = f) (h0 : f ≠ 0) (hb : Below w.heap.size w w') : SrcPost l ws w (.returned (.tuple #[.slice none 0 0, .int .i64 f])) w' :=
  ⟨_, by rw [hf], fun _ => rfl, fun h => absurd (hf.symm.trans h) h0, hb⟩
theorem SrcPost.good {l : List RuleV} {ws L : List ByteArray} {w w' : World} {A : Option Addr} {c : Nat} {out : List Nat} (hf : planErr l ws = 0) (hp : PlanIs l ws out) (hk : KeysAre (setOf (srcK l out)) L) (hs : Sl w' (Lt w'.heap.size) A L.length L) (hb : Below w.heap.size w w') :
    SrcPost l ws w (.returned (.tuple #[.slice A L.length c, .int .i64 0])) w' :=
  ⟨_, by rw [hf], fun h => absurd hf h, fun _ => ⟨out, L, A, c, hp, hk, rfl, hs⟩, hb⟩
theorem plan_rules {l : List RuleV} {ws : List ByteArray} (h0 : planErr l ws = 0) : checkRulesS l = 0 := by
  rcases Classical.em (checkRulesS l = 0) with h | h
  · exact h
  · rw [planErr_bad h] at h0; exact absurd h0 h
theorem rules_ok {l : List RuleV} (h : checkRulesS l = 0) : RulesOk l ∧ allOutputsErr l = 0 := by
  unfold checkRulesS at h
  split at h
  · cases h
  rename_i h0
  split at h
  · rename_i h1; exact absurd h h1
  rename_i h1
  split at h
  · rename_i h2; exact absurd h h2
  rename_i h2
  exact ⟨rulesOk_of h0 (by simpa using h1), by simpa using h2⟩
set_option maxHeartbeats 4000000 in
set_option maxRecDepth 100000 in
theorem ref6_Sources (A B : Option Addr) (n c m d : Nat) (l : List RuleV) (ws : List ByteArray) (w : World) (hE : Env w) (hsl : Sl w (Lt w.heap.size) A n l) (hws : Sl w (Lt w.heap.size) B m ws) :
    Calls Tryz.prog 20 #[.slice A n c, .slice B m d] w (SrcPost l ws w) := by
  have HL := Lib.hid hsl.1
  go_enter Tryz.func20, Tryz.ntmps20
  go_wp2_with fail
  refine (ref6_plan A B n c m d l ws w hE hsl hws).mono ?_
  rintro e w1 ⟨v, rfl, hbad, hgood, hbw⟩
  by_cases h0 : planErr l ws = 0
  · obtain ⟨out, hpl, hrow⟩ := hgood h0
    have HZ := Lib.hid h0
    have hok := rules_ok (plan_rules h0)
    have HOK := Lib.hid hok.1
    have hl5 := hok.1.many
    rw [h0]
    clear h0 hbad hgood hok
    obtain ⟨A7, c7, rfl, h71, h72, hs7⟩ := hrow.sl
    have hplt := (plan_lt hpl).1
    have hple := (plan_lt hpl).2
    have HPl := Lib.hid hpl
    have HLt := Lib.hid hplt
    have hN5 : out.length ≤ 500 := by omega
    have hmN : out.length ≤ 9223372036854775807 := by omega
    have HWF := Lib.hid hbw
    have hwz := hbw.size
    have hsl1 := sl_call hsl hbw (Nat.le_refl _)
    clear hrow hpl hplt hbw
    go_wp2
    go_loopw [8, 9] (fun v iv wx => ∃ (k : Nat) (L : List ByteArray), k ≤ out.length ∧ iv = .int .i64 k ∧ RowK wx w1.heap.size 9 (fun _ => False) v L ∧ KeysAre (setOf (srcK l (out.take k))) L ∧ L.length ≤ k * 1000 ∧ Below w1.heap.size w1 wx) (fun _ iv _ => out.length - (intOf iv).toNat)
    case atStart => exact ⟨0, [], Nat.zero_le _, rfl, RowK.nil, keys_nil, Nat.zero_le _, Below.refl _ _⟩
    case round =>
      obtain ⟨k, L, hk, rfl, hrow, hka, hLl, hbel⟩ := hrel
      have HKa := Lib.hid hka; clear hka
      by_cases hlt : k < out.length
      · have hkI : (k : Int) < (out.length : Int) := by omega
        obtain ⟨b7, o7, i, rfl, _, hi, him, ci⟩ := (hs7.keep (keep_lt hbel)).nat hlt
        have hin : i < n := by have := HLt.out i (List.mem_of_getElem? hi); have := HL.out; omega
        have hiI : (i : Int) < (n : Int) := by omega
        have HSm := Lib.hid (srcK_more (l := l) hi)
        obtain ⟨b, o, x, rfl, hbq, hx, A1, n1, c1, A2, n2, c2, A3, n3, c3, A4, n4, c4, A5, n5, c5, _, _, ⟨_, _, s3, _, s5⟩, q0, q1, q2, q3, q4, q5, q6, q7⟩ := (hsl1.keep (keep_lt hbel)).rule hin
        rw [← insAt_some hx] at s5
        have hn5 : (insAt l i).length = n5 := s5.1
        have hm5 : n5 ≤ 9223372036854775807 := s5.2.1
        have ho2 := (HOK.out.ins i).1
        have hbx : Below wr.heap.size wr (wr.alloc (.cells #[.string x.name, .string x.action.tool, .slice A1 n1 c1, .slice A2 n2 c2, .slice A3 n3 c3, .slice A4 n4 c4, .int .i64 x.action.time, .slice A5 n5 c5] 50)) := fr_alloc (fr_refl wr) _
        have hX := rule_box wr x A1 n1 c1 A2 n2 c2 A3 n3 c3 A4 n4 c4 A5 n5 c5
        obtain ⟨R, hR⟩ : ∃ R, R = ruleCells x A1 n1 c1 A2 n2 c2 A3 n3 c3 A4 n4 c4 A5 n5 c5 := ⟨_, rfl⟩
        have hR7 : R[7]? = some (.slice A5 n5 c5) := by rw [hR]; rfl
        rw [← hR] at hX
        have HR7 := Lib.hid hR7
        have hrow1 := hrow.call hbx
        have hb1 := hbel.trans (hbx.mono hbel.size)
        have HS5 := Lib.hid (fun (W : World) (hW : Below w1.heap.size w1 W) => s5.keep (w' := W) (fun b (hb : b < w1.heap.size) => (hW.block b hb).trans (hbel.block b hb).symm))
        obtain ⟨gx, hgx⟩ : ∃ gx, gx = wr.heap.size := ⟨_, rfl⟩
        rw [← hgx] at hX
        have hsz := hbel.size
        clear hi hx hrow hbx hbel s3 s5 hR hR7
        go_wp2_with fail
        rw [← hgx]
        generalize wr.alloc (.cells #[.string x.name, .string x.action.tool, .slice A1 n1 c1, .slice A2 n2 c2, .slice A3 n3 c3, .slice A4 n4 c4, .int .i64 x.action.time, .slice A5 n5 c5] 50) = WB at hX hrow1 hb1 ⊢
        clear hgx q0 q1 q2 q3 q4 q5 q6 q7 ci
        go_loopw [8, 11] (fun v jv wx => ∃ (t : Nat) (L : List ByteArray), t ≤ n5 ∧ jv = .int .i64 t ∧ RowK wx w1.heap.size 9 (fun _ => False) v L ∧ KeysAre (setOf (srcK l (out.take k) ++ srcOf l ((insAt l i).take t))) L ∧ L.length ≤ k * 1000 + t ∧ Arr wx gx 50 R ∧ Below w1.heap.size w1 wx) (fun _ jv _ => n5 - (intOf jv).toNat)
        case atStart => exact ⟨0, L, Nat.zero_le _, rfl, hrow1, by simpa [srcOf] using HKa.out, by omega, hX, hb1⟩
        case round =>
          clear hrow1 hX hb1 HKa hLl
          obtain ⟨t, L, ht, rfl, hrow, hka, hLl, hX, hbel⟩ := hrel
          have HKa := Lib.hid hka; clear hka
          have p7 := hX.cell HR7.out
          have hgl := hX.lt
          by_cases htn : t < n5
          · have htI : (t : Int) < (n5 : Int) := by omega
            obtain ⟨b1, o1, p, rfl, _, hp, hps, cp⟩ := (HS5.out _ hbel).str htn
            have HP := Lib.hid hp; clear hp
            go_wp2_with fail
            refine (ref6_outputOf _ n c l p wr _ (sl_call hsl (HWF.out.trans (hbel.mono hwz)) (Nat.le_refl _))).mono ?_
            rintro e w3 ⟨rfl, rfl⟩
            cases hj : idxOut l p with
            | none =>
              have HS := Lib.hid (srcOf_yes HP.out hj)
              rw [numOr_none]
              clear hj
              have hsz2 := hbel.size
              go_wp2_with fail
              refine (ref6_put u8 L p w1.heap.size (setOf (srcK l (out.take k) ++ srcOf l ((insAt l i).take t))) (setOf (srcK l (out.take k) ++ srcOf l ((insAt l i).take t) ++ [p.data.toList])) wr hrow hsz2 (by omega) hps HKa.out (fun key => set_some _ _ _)).mono ?_
              rintro e w4 ⟨v4, L4, rfl, hrow4, hka4, hl4, hb4⟩
              rw [List.append_assoc, ← HS.out] at hka4
              have HK4 := Lib.hid hka4
              have hX4 := hX.call hb4
              have hb04 := hbel.trans (hb4.mono hsz2)
              clear hka4 hX hrow hb4 hbel p7 cp
              go_wp2
              go_roundw
              case rel => exact ⟨t + 1, L4, by omega, by go_num, hrow4, HK4.out, by omega, hX4, hb04⟩
              case measure => simp [intOf]; omega
            | some j =>
              have hS := srcOf_no HP.out hj
              rw [numOr_some]
              have hj0 : ¬ (j : Int) < 0 := by omega
              have HK4 := Lib.hid (show KeysAre (setOf (srcK l (out.take k) ++ srcOf l ((insAt l i).take (t + 1)))) L by rw [hS]; exact HKa.out)
              clear hj hS
              go_wp2
              go_roundw
              case rel => exact ⟨t + 1, L, by omega, by go_num, hrow, HK4.out, by omega, hX, hbel⟩
              case measure => simp [intOf]; omega
          · have HK4 := Lib.hid (show KeysAre (setOf (srcK l (out.take (k + 1)))) L by
              have := HKa.out
              rw [List.take_of_length_le (l := insAt l i) (by omega), ← HSm.out] at this
              exact this)
            go_wp2
            go_roundw
            case rel => exact ⟨k + 1, L, by omega, by go_num, hrow, HK4.out, by omega, hbel⟩
            case measure => simp [intOf]; omega
      · have hka := HKa.out
        rw [List.take_of_length_le (by omega)] at hka
        obtain ⟨A8, c8, rfl, _, _, hs8⟩ := hrow.sl
        have HE := Lib.hid (SrcPost.good (w := w) (c := c8) HZ.out HPl.out hka hs8 (HWF.out.trans (hbel.mono hwz)))
        clear hka hs8 hrow
        go_wp2
        go_ret2
        exact HE.out
  · have hne : (planErr l ws == 0) = false := by rw [beq_eq_false_iff_ne]; exact h0
    have HN := Lib.hid h0
    obtain rfl := hbad h0
    clear h0 hbad hgood
    go_wp2
    go_ret2
    exact SrcPost.bad rfl HN.out hbw
end Go.Proofs.Sm

namespace Go.Proofs.Sm
open Go.RowKit

theorem idxOut_none {l : List RuleV} {p : ByteArray} : idxOut l p = none ↔ twiceS l l.length p = false := by
  rw [idxOut, List.find?_eq_none, twiceS, List.any_eq_false]
theorem of_there {l : List RuleV} {n : Nat} (hn : l.length = n) (p : ByteArray) : (ofAt l n 0 p.data.toList).isSome = (idxOut l p).isSome := by
  subst hn
  rw [ofAt_zero, Option.isSome_map, Bool.eq_iff_iff]
  have h1 := lastOf_none (l := l) (i := l.length) (p := p)
  have h2 := idxOut_none (l := l) (p := p)
  rw [← h2] at h1
  cases h3 : lastOf l l.length p.data.toList <;> cases h4 : idxOut l p <;> simp_all
set_option maxHeartbeats 4000000 in
set_option maxRecDepth 100000 in
theorem steps_Sources (A B : Option Addr) (n c m d : Nat) (l : List RuleV) (ws : List ByteArray) (w : World) (hE : Env w) (hsl : Sl w (Lt w.heap.size) A n l) (hws : Sl w (Lt w.heap.size) B m ws) :
    Calls Tryz.prog 19 #[.slice A n c, .slice B m d] w (SrcPost l ws w) := by
  have HL := Lib.hid hsl.1
  go_enter Tryz.func19, Tryz.ntmps19
  go_wp2_with fail
  refine (steps_open A n c l w hE hsl).mono ?_
  rintro e w0 ⟨vp, rfl, hbad0, hgood0, hb0⟩
  by_cases hr0 : checkRulesS l = 0
  · obtain ⟨g, rfl, hpl0⟩ := hgood0 hr0
    have hok := rules_ok hr0
    have HOK := Lib.hid hok.1
    have hl5 := hok.1.many
    have HPE := Lib.hid (planErr_clos (ws := ws) hr0)
    have HC := Lib.hid (steps_closure _ g A B n c m d l ws w0 hpl0 (sl_call hsl hb0 (Nat.le_refl _)) hr0 (sl_call hws hb0 (Nat.le_refl _)))
    rw [hr0]
    clear hr0 hbad0 hgood0 hok
    go_wp2_with fail
    refine HC.out.mono ?_
    rintro e w1 ⟨v, rfl, hbad, hgood, hb1⟩
    have hbw := fr_call hb0 hb1
    by_cases h0 : closErr l ws = 0
    · obtain ⟨out, hpl, hrow⟩ := hgood h0
      have HZ := Lib.hid (HPE.out.trans h0)
      obtain ⟨_, mp, np, D, dd, hP, hof, _, _, _⟩ := hpl0.call hb1
      rw [h0]
      clear h0 hbad hgood hb0 hb1 hpl0
      obtain ⟨A7, c7, rfl, h71, h72, hs7⟩ := hrow.sl
      have hplt := (plan_lt hpl).1
      have hple := (plan_lt hpl).2
      have HPl := Lib.hid hpl
      have HLt := Lib.hid hplt
      have hN5 : out.length ≤ 500 := by omega
      have hmN : out.length ≤ 9223372036854775807 := by omega
      have HWF := Lib.hid hbw
      have hwz := hbw.size
      have hsl1 := sl_call hsl hbw (Nat.le_refl _)
      have HOf := Lib.hid hof
      have HPa := Lib.hid hP
      have hgl := hP.lt
      have hmm := @run_makeMap Tryz.prog
      obtain ⟨mb, hmb⟩ : ∃ mb, mb = w1.heap.size := ⟨_, rfl⟩
      have hM0 : MapIs Tryz.prog 9 (w1.alloc (.map #[] 0)) mb 0 (setOf (srcK l (out.take 0))) := by
        rw [hmb]
        exact (MapIs.made (P := Tryz.prog) (k := 9) w1).congr fun key => by simp [setOf, srcK]
      have hb2 : Below w1.heap.size w1 (w1.alloc (.map #[] 0)) := fr_alloc (fr_refl w1) _
      have hmz : w1.heap.size ≤ mb := by omega
      clear hrow hpl hplt hbw hof hP
      go_wp2
      rw [← hmb]
      clear hmm hmb
      generalize w1.alloc (.map #[] 0) = W2 at hM0 hb2 ⊢
      go_loopw [36] (fun iv wx => ∃ (k nn : Nat), k ≤ out.length ∧ iv = .int .i64 k ∧ nn ≤ k * 1000 ∧ MapIs Tryz.prog 9 wx mb nn (setOf (srcK l (out.take k))) ∧ Below w1.heap.size w1 wx) (fun iv _ => out.length - (intOf iv).toNat)
      case atStart => exact ⟨0, 0, Nat.zero_le _, rfl, Nat.zero_le _, hM0, hb2⟩
      case round =>
        clear hM0 hb2
        obtain ⟨k, nn, hk, rfl, hnn, hM, hbel⟩ := hrel
        by_cases hlt : k < out.length
        · have hkI : (k : Int) < (out.length : Int) := by omega
          obtain ⟨b7, o7, i, rfl, _, hi, him, ci⟩ := (hs7.keep (keep_lt hbel)).nat hlt
          have hin : i < n := by have := HLt.out i (List.mem_of_getElem? hi); have := HL.out; omega
          have hiI : (i : Int) < (n : Int) := by omega
          have HSm := Lib.hid (srcK_more (l := l) hi)
          obtain ⟨b, o, x, rfl, hbq, hx, A1, n1, c1, A2, n2, c2, A3, n3, c3, A4, n4, c4, A5, n5, c5, _, _, ⟨_, _, s3, _, s5⟩, q0, q1, q2, q3, q4, q5, q6, q7⟩ := (hsl1.keep (keep_lt hbel)).rule hin
          rw [← insAt_some hx] at s5
          have hn5 : (insAt l i).length = n5 := s5.1
          have hm5 : n5 ≤ 9223372036854775807 := s5.2.1
          have ho2 := (HOK.out.ins i).1
          have HS5 := Lib.hid (fun (W : World) (hW : Below w1.heap.size w1 W) => s5.keep (w' := W) (fun b (hb : b < w1.heap.size) => (hW.block b hb).trans (hbel.block b hb).symm))
          have HM := Lib.hid hM
          clear hi hx s3 s5 hM q0 q1 q2 q3 q4 q5 q6
          go_wp2
          go_loopw [46] (fun jv wx => ∃ (t mm : Nat), t ≤ n5 ∧ jv = .int .i64 t ∧ mm ≤ k * 1000 + t ∧ MapIs Tryz.prog 9 wx mb mm (setOf (srcK l (out.take k) ++ srcOf l ((insAt l i).take t))) ∧ Below w1.heap.size w1 wx) (fun jv _ => n5 - (intOf jv).toNat)
          case atStart => exact ⟨0, nn, Nat.zero_le _, rfl, by omega, by simpa [srcOf] using HM.out, hbel⟩
          case round =>
            clear hbel HM hnn q7 ci
            obtain ⟨t, mm, ht, rfl, hmm, hM, hbel⟩ := hrel
            by_cases htn : t < n5
            · have htI : (t : Int) < (n5 : Int) := by omega
              obtain ⟨b1, o1, p, rfl, _, hp, hps, cp⟩ := (HS5.out _ hbel).str htn
              have HP := Lib.hid hp; clear hp
              have hP2 := HPa.out.call hbel
              have pc := hP2.cell (i := 1) rfl
              have hgl2 := hP2.lt
              have hlk := of_lookup (HOf.out.call hbel) hps
              rw [of_there HL.out] at hlk
              generalize (ofAt l n 0 p.data.toList).getD (.int .i64 0) = vv at hlk
              clear hP2
              cases hj : idxOut l p with
              | none =>
                have HS := Lib.hid (srcOf_yes HP.out hj)
                rw [hj] at hlk
                simp only [Option.isSome_none] at hlk
                have HSM := Lib.hid (fun key => set_more (srcK l (out.take k) ++ srcOf l ((insAt l i).take t)) p.data.toList key)
                clear hj
                go_wp2_with (at_mapUpdate; refine wpList_mapUpdate_is _ rfl _ _ _ 72 rfl Tryz.underlying9 Tryz.underlying72 rfl hM (by unfold maxLen; omega) p hps (.bool true) rfl rfl ?_; intro w4 hmap4 hg4)
                have hM4 := hmap4.congr HSM.out
                rw [List.append_assoc, ← HS.out] at hM4
                have hb4 := hbel.grown hg4 hbel.size fun k hk => by cases hk; omega
                clear hmap4 hg4 hM hbel hlk pc cp
                go_wp2
                go_roundw
                case rel => exact ⟨t + 1, mm + 1, by omega, by go_num, by omega, hM4, hb4⟩
                case measure => simp [intOf]; omega
              | some j =>
                have hS := srcOf_no HP.out hj
                rw [hj] at hlk
                simp only [Option.isSome_some] at hlk
                have HM4 := Lib.hid (show MapIs Tryz.prog 9 wr mb mm (setOf (srcK l (out.take k) ++ srcOf l ((insAt l i).take (t + 1)))) by rw [hS]; exact hM)
                clear hj hS hM
                go_wp2
                go_roundw
                case rel => exact ⟨t + 1, mm, by omega, by go_num, by omega, HM4.out, hbel⟩
                case measure => simp [intOf]; omega
            · have HM4 := Lib.hid (show MapIs Tryz.prog 9 wr mb mm (setOf (srcK l (out.take (k + 1)))) by
                have := hM
                rw [List.take_of_length_le (l := insAt l i) (by omega), ← HSm.out] at this
                exact this)
              clear hM
              go_wp2
              go_roundw
              case rel => exact ⟨k + 1, mm, by omega, by go_num, by omega, HM4.out, hbel⟩
              case measure => simp [intOf]; omega
        · rw [List.take_of_length_le (by omega)] at hM
          have HK := Lib.hid (keys_mapstringbool mb wr)
          have HS := Lib.hid (sorted_mapstringbool mb nn (setOf (srcK l out)) wr hM (by omega))
          clear hM
          go_wp2_with fail
          refine HK.out.mono ?_
          rintro e w4 ⟨rfl, rfl⟩
          go_wp2_with fail
          refine HS.out.mono ?_
          rintro e w5 ⟨ks, A8, c8, rfl, hka, _, _, hs8, hb5⟩
          have HE := Lib.hid (SrcPost.good (w := w) (c := c8) HZ.out HPl.out hka hs8 (HWF.out.trans ((hbel.trans (hb5.mono hbel.size)).mono hwz)))
          clear hka hs8 hb5 HK HS
          go_wp2
          go_ret2
          exact HE.out
    · have hne : (closErr l ws == 0) = false := by rw [beq_eq_false_iff_ne]; exact h0
      have HN := Lib.hid h0
      have HV := HPE
      obtain rfl := hbad h0
      generalize closErr l ws = f at HN HV h0 hne ⊢
      clear h0 hbad hgood hb0 hb1 HPE
      go_wp2
      go_ret2
      exact SrcPost.bad HV.out HN.out hbw
  · have hne : (checkRulesS l == 0) = false := by rw [beq_eq_false_iff_ne]; exact hr0
    have HN := Lib.hid hr0
    have HV := Lib.hid (planErr_bad (ws := ws) hr0)
    obtain rfl := hbad0 hr0
    clear hr0 hbad0 hgood0
    go_wp2
    go_ret2
    exact SrcPost.bad HV.out HN.out hb0
/-- what both hand back is one list -/
theorem order_both {l : List RuleV} {ws : List ByteArray} {w w1 w2 : World} {v1 v2 : Value} (hbad1 : planErr l ws ≠ 0 → v1 = .slice none 0 0) (hbad2 : planErr l ws ≠ 0 → v2 = .slice none 0 0)
    (hg1 : planErr l ws = 0 → ∃ out, PlanIs l ws out ∧ RowK w1 w.heap.size 9 (fun _ => False) v1 (namesAt l out)) (hb : Below w1.heap.size w1 w2) (B2 : Nat)
    (hg2 : planErr l ws = 0 → ∃ out, PlanIs l ws out ∧ RowK w2 B2 9 (fun _ => False) v2 (namesAt l out)) :
    ∃ (A1 A2 : Option Addr) (k c1 c2 : Nat) (m : List ByteArray), v1 = .slice A1 k c1 ∧ v2 = .slice A2 k c2 ∧ Sl w2 (Lt w2.heap.size) A1 k m ∧ Sl w2 (Lt w2.heap.size) A2 k m := by
  by_cases h0 : planErr l ws = 0
  · obtain ⟨out, p1, r1⟩ := hg1 h0
    obtain ⟨out2, p2, r2⟩ := hg2 h0
    obtain rfl := p1.unique p2
    obtain ⟨A1, c1, rfl, _, _, s1⟩ := r1.sl
    obtain ⟨A2, c2, rfl, _, _, s2⟩ := r2.sl
    exact ⟨A1, A2, _, c1, c2, _, rfl, rfl, sl_call s1 hb (Nat.le_refl _), s2⟩
  · exact ⟨none, none, 0, 0, 0, [], hbad1 h0, hbad2 h0, Sl.nil, Sl.nil⟩
theorem source_both {l : List RuleV} {ws : List ByteArray} {w1 w2 : World} {v1 v2 : Value} (hbad1 : planErr l ws ≠ 0 → v1 = .slice none 0 0) (hbad2 : planErr l ws ≠ 0 → v2 = .slice none 0 0)
    (hg1 : planErr l ws = 0 → ∃ out L A c, PlanIs l ws out ∧ KeysAre (setOf (srcK l out)) L ∧ v1 = .slice A L.length c ∧ Sl w1 (Lt w1.heap.size) A L.length L) (hb : Below w1.heap.size w1 w2)
    (hg2 : planErr l ws = 0 → ∃ out L A c, PlanIs l ws out ∧ KeysAre (setOf (srcK l out)) L ∧ v2 = .slice A L.length c ∧ Sl w2 (Lt w2.heap.size) A L.length L) :
    ∃ (A1 A2 : Option Addr) (k c1 c2 : Nat) (m : List ByteArray), v1 = .slice A1 k c1 ∧ v2 = .slice A2 k c2 ∧ Sl w2 (Lt w2.heap.size) A1 k m ∧ Sl w2 (Lt w2.heap.size) A2 k m := by
  by_cases h0 : planErr l ws = 0
  · obtain ⟨out, L1, A1, c1, p1, k1, e1, s1⟩ := hg1 h0
    obtain ⟨out2, L2, A2, c2, p2, k2, e2, s2⟩ := hg2 h0
    obtain rfl := p1.unique p2
    obtain rfl := k1.unique k2 fun _ => rfl
    exact ⟨A1, A2, _, c1, c2, _, e1, e2, sl_call s1 hb (Nat.le_refl _), s2⟩
  · exact ⟨none, none, 0, 0, 0, [], hbad1 h0, hbad2 h0, Sl.nil, Sl.nil⟩
set_option maxHeartbeats 2000000 in
set_option maxRecDepth 100000 in
theorem law_orders (A B : Option Addr) (n c m d : Nat) (l : List RuleV) (ws : List ByteArray) (w : World) (hE : Env w) (hsl : Sl w (Lt w.heap.size) A n l) (hws : Sl w (Lt w.heap.size) B m ws) :
    Calls Tryz.prog 6 #[.slice A n c, .slice B m d] w fun e w' => e = .returned (.bool true) ∧ Below w.heap.size w w' := by
  go_enter Tryz.func6, Tryz.ntmps6
  go_wp2_with fail
  refine (steps_Order A B n c m d l ws w hE hsl hws).mono ?_
  rintro e w1 ⟨v1, rfl, hbad1, hgood1, b1⟩
  go_wp2_with fail
  refine (ref6_Order A B n c m d l ws w1 (hE.then_ b1) (sl_call hsl b1 (Nat.le_refl _)) (sl_call hws b1 (Nat.le_refl _))).mono ?_
  rintro e w2 ⟨v2, rfl, hbad2, hgood2, b2⟩
  have b12 := fr_call b1 b2
  obtain ⟨A1, A2, k, c1, c2, m1, rfl, rfl, s1, s2⟩ := order_both hbad1 hbad2 hgood1 b2 _ hgood2
  clear hbad1 hbad2 hgood1 hgood2 b1 b2
  go_wp2_with fail
  refine (steps_Sources A B n c m d l ws w2 (hE.then_ b12) (sl_call hsl b12 (Nat.le_refl _)) (sl_call hws b12 (Nat.le_refl _))).mono ?_
  rintro e w3 ⟨v3, rfl, hbad3, hgood3, b3⟩
  have b13 := fr_call b12 b3
  go_wp2_with fail
  refine (ref6_Sources A B n c m d l ws w3 (hE.then_ b13) (sl_call hsl b13 (Nat.le_refl _)) (sl_call hws b13 (Nat.le_refl _))).mono ?_
  rintro e w4 ⟨v4, rfl, hbad4, hgood4, b4⟩
  obtain ⟨A3, A4, k2, c3, c4, m2, rfl, rfl, s3, s4⟩ := source_both hbad3 hbad4 hgood3 b4 hgood4
  have b34 := fr_call b3 b4
  have b14 := fr_call b13 b4
  have t1 := sl_call s1 b34 (Nat.le_refl _)
  have t2 := sl_call s2 b34 (Nat.le_refl _)
  clear hbad3 hbad4 hgood3 hgood4 s1 s2 b3 b4 b12 b13
  generalize planErr l ws = f
  go_wp2_with fail
  refine (equal_strings A1 A2 k c1 c2 m1 w4 t1 t2).mono ?_
  rintro e w5 ⟨rfl, b5⟩
  have b15 := fr_call b14 b5
  go_wp2_with fail
  refine (equal_strings A3 A4 k2 c3 c4 m2 w5 (sl_call s3 b5 (Nat.le_refl _)) (sl_call s4 b5 (Nat.le_refl _))).mono ?_
  rintro e w6 ⟨rfl, b6⟩
  have b16 := fr_call b15 b6
  go_wp2_with fail
  refine (law6_awake w6 (hE.then_ b16)).mono ?_
  rintro e w7 ⟨rfl, b7⟩
  go_wp2
  go_ret
  exact ⟨rfl, fr_call b16 b7⟩
end Go.Proofs.Sm

namespace Go.Proofs.YtogjdgpghpkgmaaGreatDoor.orders
open Go.ChangeShapes Go.WideShapes Go.ChangeAt Go.RowKit Go.Proofs.Sm

noncomputable def laidWorld (os : Os) : World := errWorld (tableWorld os [(1, Rows.laid_unicode_utf8_first), (2, Rows.laid_unicode_utf8_acceptRanges), (5, Rows.laid_internal_strconv_uint64pow10), (6, Rows.laid_math_bits_deBruijn32tab), (7, Rows.laid_math_bits_deBruijn64tab)])
  230 232 [(4, [118, 97, 108, 117, 101, 32, 111, 117, 116, 32, 111, 102, 32, 114, 97, 110, 103, 101]), (3, [105, 110, 118, 97, 108, 105, 100, 32, 115, 121, 110, 116, 97, 120])]
theorem laid_met (os : Os) (args : Array Value) : laidMet Tryz.prog Rows.stepsOrdersMatchSpecRow.laid ((laidWorld os).forCall (fun _ _ => 0) ⟨#[], args, []⟩).memory :=
  (LaidIn.of_run (l := Rows.stepsOrdersMatchSpecRow.laid) (List.range 30) 8 (by kernel_rfl) (by kernel_rfl) (by kernel_rfl) (by kernel_rfl)).met
theorem reads (os : Os) {H : Type} (enc : TypeId × Value → H) : ∃ ds places, DataW.whole enc Tryz.prog ((laidWorld os).forCall (fun _ _ => 0) ⟨#[], #[.slice none 0 0, .slice none 0 0], []⟩).memory Tryz.f6.params.toList Rows.stepsOrdersMatchSpecSpec.vars false #[Value.slice none 0 0, Value.slice none 0 0].toList 8 = some (ds, [], places) :=
  ⟨[.nil, .nil], [], by kernel_rfl⟩

set_option maxRecDepth 100000 in
theorem contract (H : Type) (enc : TypeId × Value → H) (W : World) (base : Nat) (args : Array Value) (ds gs : List (DataW H)) (before : List MemPlace)
    (hval : ∀ (j : Nat) t v, Tryz.f6.params[j]? = some t → args[j]? = some v → Value.okWide Tryz.prog W .any base t v)
    (hW : DataW.Whole enc Tryz.prog Tryz.f6.params.toList Rows.stepsOrdersMatchSpecSpec.vars false W args.toList ds gs before) (hE : Env W) :
    Calls Tryz.prog 6 args W fun e W' => ∃ v, e = .returned v ∧ Rows.stepsOrdersMatchSpecSpec.post enc Tryz.prog Tryz.f6 false true false false W args v W' := by
  have hW' := hW
  obtain ⟨p, q, hA0, hV, rfl, hfz, hnd⟩ := hW
  have hA : DataW.TrodAll enc Tryz.prog W 0 (fun _ => true) true Tryz.f6.params.toList args.toList ds p := hA0
  rw [Tryz.params6] at hA hval
  obtain ⟨v0, vs0, d0, ds0, p0, q0, hargs, rfl, rfl, h0, r0⟩ := trodAll_cons hA
  obtain ⟨v1, vs1, d1, ds1, p1, q1, rfl, rfl, rfl, h1, r1⟩ := trodAll_cons r0
  obtain ⟨rfl, rfl, rfl⟩ := trodAll_nil r1
  obtain rfl : args = #[v0, v1] := by cases args; simp_all
  obtain ⟨rfl, rfl⟩ := trodVars_none hV
  have k0 := h0
  have lt0 : ∀ x ∈ p0, x.block < W.heap.size := by obtain ⟨m, hm⟩ := k0; exact DataW.trod_lt m _ _ _ hm
  have k1 := h1
  have lt1 : ∀ x ∈ p1, x.block < W.heap.size := by obtain ⟨m, hm⟩ := k1; exact DataW.trod_lt m _ _ _ hm
  obtain ⟨A0, n0, c0, l0, rfl, hs0⟩ := arg_slice dec_rules (okWide_slice Tryz.underlying22 (hval 0 22 v0 rfl rfl)) h0
  obtain ⟨A1, n1, c1, l1, rfl, hs1⟩ := arg_slice dec_strs (okWide_slice Tryz.underlying23 (hval 1 23 v1 rfl rfl)) h1
  clear hA0
  refine (law_orders A0 A1 n0 c0 n1 c1 l0 l1 W hE hs0 hs1).mono fun e W' ⟨he, bel⟩ => ?_
  subst he
  exact ⟨_, rfl, _, _, _, [], _, [], hW', trodAll_mk1 (shut_bool Tryz.underlying4 _), (trodAll_cons_mk (Below.trod laidOut (by kernel_rfl) (of_decide_eq_true (by kernel_rfl)) k0 bel lt0) (trodAll_cons_mk (Below.trod laidOut (by kernel_rfl) (of_decide_eq_true (by kernel_rfl)) k1 bel lt1) trodAll_mk0)), rfl, bel.frame _, fun h => by cases h⟩

set_option maxRecDepth 100000 in
theorem lifted (os : Os) (started : os.Started) (H : Type) (enc : TypeId × Value → H) (F : Stop.Interp) :
    ReturnsInHanded {} Tryz.checked os 6 .any ((OpenSpec.ofChange Rows.stepsOrdersMatchSpecSpec).preRow enc Tryz.prog Tryz.f6 Rows.stepsOrdersMatchSpecRow.domain false Rows.stepsOrdersMatchSpecRow.laid) (((OpenSpec.ofChange Rows.stepsOrdersMatchSpecSpec).at F).post enc Tryz.prog Tryz.f6 false true false false) := by
  obtain ⟨d, places, hx⟩ := reads os enc
  refine returnsInHanded_of_row (C := Tryz.checked) (s := OpenSpec.ofChange Rows.stepsOrdersMatchSpecSpec) own started (by kernel_rfl) Tryz.func6
    (witness_row_atRef (enc := enc) (C := Tryz.checked) false (laidWorld os) #[.slice none 0 0, .slice none 0 0] rfl (by kernel_rfl) (by kernel_rfl) (by kernel_rfl)
      (OpenSpec.preRow_of_cond 8 hx (by kernel_rfl) (fun k hk => by cases hk) (by kernel_rfl) (laid_met os _))) ?_
  intro W base args ds gs before hval hW _ _ _ hL hS _
  exact contract H enc W base args ds gs before hval hW (env_of hL hS (by simp [Rows.stepsOrdersMatchSpecRow, Rows.laid_unicode_utf8_first]) (by simp [Rows.stepsOrdersMatchSpecRow]))

theorem said : Rows.StepsOrdersMatchSpecSaid :=
  OpenClaim.holds_of_cond 6 Tryz.f6 rfl rfl rfl rfl rfl rfl rfl ⟨rfl, rfl, rfl, rfl, rfl⟩ rfl rfl rfl rfl rfl (by kernel_rfl) Tryz.func6 closed
    (of_decide_eq_true (by as_aux_lemma => kernel_rfl)) (by unfold Func.isWrapper; first | (rw [if_pos (by decide +kernel)]; kernel_rfl) | (rw [if_neg (by decide +kernel)]; exact ⟨rfl, rfl⟩))
    (fun os started H enc _ F => by rw [OpenClaim.pre_eq_preRow]; exact lifted os started H enc F)

theorem plain (f : FuncId) (fn : Func) (hf : Tryz.pinned.checked.prog.funcNamed Rows.stepsOrdersMatchSpecRow.func = some f) (hfn : Tryz.pinned.checked.prog.funcs[f]? = some fn) :
    true = Tryz.pinned.checked.prog.looks [] ∧ ∀ (j : Nat) t, fn.params[j]? = some t → Tryz.pinned.checked.prog.wantsStandIn t = false := by
  obtain rfl : f = 6 := Option.some.inj ((show Tryz.prog.funcNamed Rows.stepsOrdersMatchSpecRow.func = some 6 by kernel_rfl).symm.trans hf) |>.symm
  obtain rfl : fn = Tryz.f6 := (Option.some.inj (Tryz.func6.symm.trans hfn)).symm
  refine ⟨by kernel_rfl, fun j t ht => ?_⟩
  rw [Tryz.params6] at ht
  have hm : t = 22 ∨ t = 23 := by simpa using Array.mem_of_getElem? ht
  rcases hm with rfl | rfl
  · exact (show Tryz.prog.wantsStandIn 22 = false by kernel_rfl)
  · exact (show Tryz.prog.wantsStandIn 23 = false by kernel_rfl)

/-- The card. -/
theorem card : Rows.StepsOrdersMatchSpecCardSaid :=
  Claim7.holds_tied_plain_at .later [] _ _ _ _ said (fun _ h => by cases h) (by as_aux_lemma => kernel_rfl) (fun _ h => by cases h) stepsOrdersMatchSpec_row_tie rfl ⟨rfl, rfl⟩ (by as_aux_lemma => kernel_rfl) rfl plain (by as_aux_lemma => kernel_rfl)
end Go.Proofs.YtogjdgpghpkgmaaGreatDoor.orders
