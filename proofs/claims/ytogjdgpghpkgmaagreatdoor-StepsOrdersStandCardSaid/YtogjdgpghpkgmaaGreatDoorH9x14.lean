/- The order has what is wanted, and all that it needs, each once, each behind what it needs: the given statement, for all arguments; no condition. -/
import Derived.Test.YtogjdgpghpkgmaaGreatDoorH12x13
import Derived.Test.YtogjdgpghpkgmaaGreatDoorH10x7
import Derived.Test.YtogjdgpghpkgmaaGreatDoorCardZRC9
namespace Go.Proofs.Sm
open Go.RowKit

def srcOf (l : List RuleV) (ins : List ByteArray) : List (List UInt8) := (ins.filter fun p => (idxOut l p).isNone).map (·.data.toList)
def srcK (l : List RuleV) (out : List Nat) : List (List UInt8) := out.flatMap fun i => srcOf l (insAt l i)
theorem srcOf_yes {l : List RuleV} {ins : List ByteArray} {t : Nat} {p : ByteArray} (hp : ins[t]? = some p) (h : idxOut l p = none) : srcOf l (ins.take (t + 1)) = srcOf l (ins.take t) ++ [p.data.toList] := by
  rw [srcOf, List.take_add_one, hp, List.filter_append, List.map_append]
  simp [srcOf, h]
theorem srcOf_no {l : List RuleV} {ins : List ByteArray} {t j : Nat} {p : ByteArray} (hp : ins[t]? = some p) (h : idxOut l p = some j) : srcOf l (ins.take (t + 1)) = srcOf l (ins.take t) := by
  rw [srcOf, List.take_add_one, hp, List.filter_append, List.map_append]
  simp [srcOf, h]
theorem srcK_more {l : List RuleV} {out : List Nat} {k i : Nat} (hi : out[k]? = some i) : srcK l (out.take (k + 1)) = srcK l (out.take k) ++ srcOf l (insAt l i) := by
  rw [srcK, List.take_add_one, hi, List.flatMap_append]; simp [srcK]
theorem set_some (S : List (List UInt8)) (x key : List UInt8) : (setOf (S ++ [x]) key).isSome = true ↔ (setOf S key).isSome = true ∨ key = x := by
  unfold setOf
  by_cases h1 : key ∈ S <;> by_cases h2 : key = x <;> simp [h1, h2]
theorem keys_nil : KeysAre (setOf []) [] := ⟨List.Pairwise.nil, fun key => by simp [setOf], fun x hx => by simp at hx⟩
def SrcPost (l : List RuleV) (ws : List ByteArray) (w : World) (e : Ending) (w' : World) : Prop :=
  ∃ v, e = .returned (.tuple #[v, .int .i64 (planErr l ws)]) ∧ (planErr l ws ≠ 0 → v = .slice none 0 0) ∧ (planErr l ws = 0 → ∃ out L A c, PlanIs l ws out ∧ KeysAre (setOf (srcK l out)) L ∧ v = .slice A L.length c ∧ Sl w' (Lt w'.heap.size) A L.length L) ∧ Below w.heap.size w w'
theorem SrcPost.bad {l : List RuleV} {ws : List ByteArray} {w w' : World} {f : Int} (hf : planErr l ws = f) (h0 : f ≠ 0) (hb : Below w.heap.size w w') : SrcPost l ws w (.returned (.tuple #[.slice none 0 0, .int .i64 f])) w' :=
  ⟨_, by rw [hf], fun _ => rfl, fun h => absurd (hf.symm.trans h) h0, hb⟩
theorem SrcPost.good {l : List RuleV} {ws L : List ByteArray} {w w' : World} {A : Option Addr} {c : Nat} {out : List Nat} (hf : planErr l ws = 0) (hp : PlanIs l ws out) (hk : KeysAre (setOf (srcK l out)) L) (hs : Sl w' (Lt w'.heap.size) A L.length L) (hb : Below w.heap.size w w') :
    SrcPost l ws w (.returned (.tuple #[.slice A L.length c, .int .i64 0])) w' :=
  ⟨_, by rw [hf], fun h => absurd hf h, fun _ => ⟨out, L, A, c, hp, hk, rfl, hs⟩, hb⟩
theorem plan_rules {l : List RuleV} {ws : List ByteArray} (h0 : planErr l ws = 0) : checkRulesS l = 0 := by
  rcases Classical.em (checkRulesS l = 0) with h | h
  · exact h
  · rw [planErr_bad h] at h0; exact absurd h0 h
theorem rules_ok {l : List RuleV} (h : checkRulesS l = 0) : RulesOk l ∧ allOutputsErr l = 0 := by
  unfold checkRulesS at h
  split at h
  · cases h
  rename_i h0
  split at h
  · rename_i h1; exact absurd h h1
  rename_i h1
  split at h
  · rename_i h2; exact absurd h h2
  rename_i h2
  exact ⟨rulesOk_of h0 (by simpa using h1), by simpa using h2⟩
set_option maxHeartbeats 4000000 in
set_option maxRecDepth 100000 in
theorem ref6_Sources (A B : Option Addr) (n c m d : Nat) (l : List RuleV) (ws : List ByteArray) (w : World) (hE : Env w) (hsl : Sl w (Lt w.heap.size) A n l) (hws : Sl w (Lt w.heap.size) B m ws) :
    Calls Tryz.prog 20 #[.slice A n c, .slice B m d] w (SrcPost l ws w) := by
  have HL := Lib.hid hsl.1
  go_enter Tryz.func20, Tryz.ntmps20
  go_wp2_with fail
  refine (ref6_plan A B n c m d l ws w hE hsl hws).mono ?_
  rintro e w1 ⟨v, rfl, hbad, hgood, hbw⟩
  by_cases h0 : planErr l ws = 0
  · obtain ⟨out, hpl, hrow⟩ := hgood h0
    have HZ := Lib.hid h0
    have hok := rules_ok (plan_rules h0)
    have HOK := Lib.hid hok.1
    have hl5 := hok.1.many
    rw [h0]
    clear h0 hbad hgood hok
    obtain ⟨A7, c7, rfl, h71, h72, hs7⟩ := hrow.sl
    have hplt := (plan_lt hpl).1
    have hple := (plan_lt hpl).2
    have HPl := Lib.hid hpl
    have HLt := Lib.hid hplt
    have hN5 : out.length ≤ 500 := by omega
    have hmN : out.length ≤ 9223372036854775807 := by omega
    have HWF := Lib.hid hbw
    have hwz := hbw.size
    have hsl1 := sl_call hsl hbw (Nat.le_refl _)
    clear hrow hpl hplt hbw
    go_wp2
    go_loopw [8, 9] (fun v iv wx => ∃ (k : Nat) (L : List ByteArray), k ≤ out.length ∧ iv = .int .i64 k ∧ RowK wx w1.heap.size 9 (fun _ => False) v L ∧ KeysAre (setOf (srcK l (out.take k))) L ∧ L.length ≤ k * 1000 ∧ Below w1.heap.size w1 wx) (fun _ iv _ => out.length - (intOf iv).toNat)
    case atStart => exact ⟨0, [], Nat.zero_le _, rfl, RowK.nil, keys_nil, Nat.zero_le _, Below.refl _ _⟩
    case round =>
      obtain ⟨k, L, hk, rfl, hrow, hka, hLl, hbel⟩ := hrel
      have HKa := Lib.hid hka; clear hka
      by_cases hlt : k < out.length
      · have hkI : (k : Int) < (out.length : Int) := by omega
        obtain ⟨b7, o7, i, rfl, _, hi, him, ci⟩ := (hs7.keep (keep_lt hbel)).nat hlt
        have hin : i < n := by have := HLt.out i (List.mem_of_getElem? hi); have := HL.out; omega
        have hiI : (i : Int) < (n : Int) := by omega
        have HSm := Lib.hid (srcK_more (l := l) hi)
        obtain ⟨b, o, x, rfl, hbq, hx, A1, n1, c1, A2, n2, c2, A3, n3, c3, A4, n4, c4, A5, n5, c5, _, _, ⟨_, _, s3, _, s5⟩, q0, q1, q2, q3, q4, q5, q6, q7⟩ := (hsl1.keep (keep_lt hbel)).rule hin
        rw [← insAt_some hx] at s5
        have hn5 : (insAt l i).length = n5 := s5.1
        have hm5 : n5 ≤ 9223372036854775807 := s5.2.1
        have ho2 := (HOK.out.ins i).1
        have hbx : Below wr.heap.size wr (wr.alloc (.cells #[.string x.name, .string x.action.tool, .slice A1 n1 c1, .slice A2 n2 c2, .slice A3 n3 c3, .slice A4 n4 c4, .int .i64 x.action.time, .slice A5 n5 c5] 50)) := fr_alloc (fr_refl wr) _
        have hX := rule_box wr x A1 n1 c1 A2 n2 c2 A3 n3 c3 A4 n4 c4 A5 n5 c5
        obtain ⟨R, hR⟩ : ∃ R, R = ruleCells x A1 n1 c1 A2 n2 c2 A3 n3 c3 A4 n4 c4 A5 n5 c5 := ⟨_, rfl⟩
        have hR7 : R[7]? = some (.slice A5 n5 c5) := by rw [hR]; rfl
        rw [← hR] at hX
        have HR7 := Lib.hid hR7
        have hrow1 := hrow.call hbx
        have hb1 := hbel.trans (hbx.mono hbel.size)
        have HS5 := Lib.hid (fun (W : World) (hW : Below w1.heap.size w1 W) => s5.keep (w' := W) (fun b (hb : b < w1.heap.size) => (hW.block b hb).trans (hbel.block b hb).symm))
        obtain ⟨gx, hgx⟩ : ∃ gx, gx = wr.heap.size := ⟨_, rfl⟩
        rw [← hgx] at hX
        have hsz := hbel.size
        clear hi hx hrow hbx hbel s3 s5 hR hR7
        go_wp2_with fail
        rw [← hgx]
        generalize wr.alloc (.cells #[.string x.name, .string x.action.tool, .slice A1 n1 c1, .slice A2 n2 c2, .slice A3 n3 c3, .slice A4 n4 c4, .int .i64 x.action.time, .slice A5 n5 c5] 50) = WB at hX hrow1 hb1 ⊢
        clear hgx q0 q1 q2 q3 q4 q5 q6 q7 ci
        go_loopw [8, 11] (fun v jv wx => ∃ (t : Nat) (L : List ByteArray), t ≤ n5 ∧ jv = .int .i64 t ∧ RowK wx w1.heap.size 9 (fun _ => False) v L ∧ KeysAre (setOf (srcK l (out.take k) ++ srcOf l ((insAt l i).take t))) L ∧ L.length ≤ k * 1000 + t ∧ Arr wx gx 50 R ∧ Below w1.heap.size w1 wx) (fun _ jv _ => n5 - (intOf jv).toNat)
        case atStart => exact ⟨0, L, Nat.zero_le _, rfl, hrow1, by simpa [srcOf] using HKa.out, by omega, hX, hb1⟩
        case round =>
          clear hrow1 hX hb1 HKa hLl
          obtain ⟨t, L, ht, rfl, hrow, hka, hLl, hX, hbel⟩ := hrel
          have HKa := Lib.hid hka; clear hka
          have p7 := hX.cell HR7.out
          have hgl := hX.lt
          by_cases htn : t < n5
          · have htI : (t : Int) < (n5 : Int) := by omega
            obtain ⟨b1, o1, p, rfl, _, hp, hps, cp⟩ := (HS5.out _ hbel).str htn
            have HP := Lib.hid hp; clear hp
            go_wp2_with fail
            refine (ref6_outputOf _ n c l p wr _ (sl_call hsl (HWF.out.trans (hbel.mono hwz)) (Nat.le_refl _))).mono ?_
            rintro e w3 ⟨rfl, rfl⟩
            cases hj : idxOut l p with
            | none =>
              have HS := Lib.hid (srcOf_yes HP.out hj)
              rw [numOr_none]
              clear hj
              have hsz2 := hbel.size
              go_wp2_with fail
              refine (ref6_put u8 L p w1.heap.size (setOf (srcK l (out.take k) ++ srcOf l ((insAt l i).take t))) (setOf (srcK l (out.take k) ++ srcOf l ((insAt l i).take t) ++ [p.data.toList])) wr hrow hsz2 (by omega) hps HKa.out (fun key => set_some _ _ _)).mono ?_
              rintro e w4 ⟨v4, L4, rfl, hrow4, hka4, hl4, hb4⟩
              rw [List.append_assoc, ← HS.out] at hka4
              have HK4 := Lib.hid hka4
              have hX4 := hX.call hb4
              have hb04 := hbel.trans (hb4.mono hsz2)
              clear hka4 hX hrow hb4 hbel p7 cp
              go_wp2
              go_roundw
              case rel => exact ⟨t + 1, L4, by omega, by go_num, hrow4, HK4.out, by omega, hX4, hb04⟩
              case measure => simp [intOf]; omega
            | some j =>
              have hS := srcOf_no HP.out hj
              rw [numOr_some]
              have hj0 : ¬ (j : Int) < 0 := by omega
              have HK4 := Lib.hid (show KeysAre (setOf (srcK l (out.take k) ++ srcOf l ((insAt l i).take (t + 1)))) L by rw [hS]; exact HKa.out)
              clear hj hS
              go_wp2
              go_roundw
              case rel => exact ⟨t + 1, L, by omega, by go_num, hrow, HK4.out, by omega, hX, hbel⟩
              case measure => simp [intOf]; omega
          · have HK4 := Lib.hid (show KeysAre (setOf (srcK l (out.take (k + 1)))) L by
              have := HKa.out
              rw [List.take_of_length_le (l := insAt l i) (by omega), ← HSm.out] at this
              exact this)
            go_wp2
            go_roundw
            case rel => exact ⟨k + 1, L, by omega, by go_num, hrow, HK4.out, by omega, hbel⟩
            case measure => simp [intOf]; omega
      · have hka := HKa.out
        rw [List.take_of_length_le (by omega)] at hka
        obtain ⟨A8, c8, rfl, _, _, hs8⟩ := hrow.sl
        have HE := Lib.hid (SrcPost.good (w := w) (c := c8) HZ.out HPl.out hka hs8 (HWF.out.trans (hbel.mono hwz)))
        clear hka hs8 hrow
        go_wp2
        go_ret2
        exact HE.out
  · have hne : (planErr l ws == 0) = false := by rw [beq_eq_false_iff_ne]; exact h0
    have HN := Lib.hid h0
    obtain rfl := hbad h0
    clear h0 hbad hgood
    go_wp2
    go_ret2
    exact SrcPost.bad rfl HN.out hbw
end Go.Proofs.Sm

namespace Go.Proofs.Sm
open Go.RowKit

theorem idxOut_none {l : List RuleV} {p : ByteArray} : idxOut l p = none ↔ twiceS l l.length p = false := by
  rw [idxOut, List.find?_eq_none, twiceS, List.any_eq_false]
theorem of_there {l : List RuleV} {n : Nat} (hn : l.length = n) (p : ByteArray) : (ofAt l n 0 p.data.toList).isSome = (idxOut l p).isSome := by
  subst hn
  rw [ofAt_zero, Option.isSome_map, Bool.eq_iff_iff]
  have h1 := lastOf_none (l := l) (i := l.length) (p := p)
  have h2 := idxOut_none (l := l) (p := p)
  rw [← h2] at h1
  cases h3 : lastOf l l.length p.data.toList <;> cases h4 : idxOut l p <;> simp_all
set_option maxHeartbeats 4000000 in
set_option maxRecDepth 100000 in
theorem steps_Sources (A B : Option Addr) (n c m d : Nat) (l : List RuleV) (ws : List ByteArray) (w : World) (hE : Env w) (hsl : Sl w (Lt w.heap.size) A n l) (hws : Sl w (Lt w.heap.size) B m ws) :
    Calls Tryz.prog 19 #[.slice A n c, .slice B m d] w (SrcPost l ws w) := by
  have HL := Lib.hid hsl.1
  go_enter Tryz.func19, Tryz.ntmps19
  go_wp2_with fail
  refine (steps_open A n c l w hE hsl).mono ?_
  rintro e w0 ⟨vp, rfl, hbad0, hgood0, hb0⟩
  by_cases hr0 : checkRulesS l = 0
  · obtain ⟨g, rfl, hpl0⟩ := hgood0 hr0
    have hok := rules_ok hr0
    have HOK := Lib.hid hok.1
    have hl5 := hok.1.many
    have HPE := Lib.hid (planErr_clos (ws := ws) hr0)
    have HC := Lib.hid (steps_closure _ g A B n c m d l ws w0 hpl0 (sl_call hsl hb0 (Nat.le_refl _)) hr0 (sl_call hws hb0 (Nat.le_refl _)))
    rw [hr0]
    clear hr0 hbad0 hgood0 hok
    go_wp2_with fail
    refine HC.out.mono ?_
    rintro e w1 ⟨v, rfl, hbad, hgood, hb1⟩
    have hbw := fr_call hb0 hb1
    by_cases h0 : closErr l ws = 0
    · obtain ⟨out, hpl, hrow⟩ := hgood h0
      have HZ := Lib.hid (HPE.out.trans h0)
      obtain ⟨_, mp, np, D, dd, hP, hof, _, _, _⟩ := hpl0.call hb1
      rw [h0]
      clear h0 hbad hgood hb0 hb1 hpl0
      obtain ⟨A7, c7, rfl, h71, h72, hs7⟩ := hrow.sl
      have hplt := (plan_lt hpl).1
      have hple := (plan_lt hpl).2
      have HPl := Lib.hid hpl
      have HLt := Lib.hid hplt
      have hN5 : out.length ≤ 500 := by omega
      have hmN : out.length ≤ 9223372036854775807 := by omega
      have HWF := Lib.hid hbw
      have hwz := hbw.size
      have hsl1 := sl_call hsl hbw (Nat.le_refl _)
      have HOf := Lib.hid hof
      have HPa := Lib.hid hP
      have hgl := hP.lt
      have hmm := @run_makeMap Tryz.prog
      obtain ⟨mb, hmb⟩ : ∃ mb, mb = w1.heap.size := ⟨_, rfl⟩
      have hM0 : MapIs Tryz.prog 9 (w1.alloc (.map #[] 0)) mb 0 (setOf (srcK l (out.take 0))) := by
        rw [hmb]
        exact (MapIs.made (P := Tryz.prog) (k := 9) w1).congr fun key => by simp [setOf, srcK]
      have hb2 : Below w1.heap.size w1 (w1.alloc (.map #[] 0)) := fr_alloc (fr_refl w1) _
      have hmz : w1.heap.size ≤ mb := by omega
      clear hrow hpl hplt hbw hof hP
      go_wp2
      rw [← hmb]
      clear hmm hmb
      generalize w1.alloc (.map #[] 0) = W2 at hM0 hb2 ⊢
      go_loopw [36] (fun iv wx => ∃ (k nn : Nat), k ≤ out.length ∧ iv = .int .i64 k ∧ nn ≤ k * 1000 ∧ MapIs Tryz.prog 9 wx mb nn (setOf (srcK l (out.take k))) ∧ Below w1.heap.size w1 wx) (fun iv _ => out.length - (intOf iv).toNat)
      case atStart => exact ⟨0, 0, Nat.zero_le _, rfl, Nat.zero_le _, hM0, hb2⟩
      case round =>
        clear hM0 hb2
        obtain ⟨k, nn, hk, rfl, hnn, hM, hbel⟩ := hrel
        by_cases hlt : k < out.length
        · have hkI : (k : Int) < (out.length : Int) := by omega
          obtain ⟨b7, o7, i, rfl, _, hi, him, ci⟩ := (hs7.keep (keep_lt hbel)).nat hlt
          have hin : i < n := by have := HLt.out i (List.mem_of_getElem? hi); have := HL.out; omega
          have hiI : (i : Int) < (n : Int) := by omega
          have HSm := Lib.hid (srcK_more (l := l) hi)
          obtain ⟨b, o, x, rfl, hbq, hx, A1, n1, c1, A2, n2, c2, A3, n3, c3, A4, n4, c4, A5, n5, c5, _, _, ⟨_, _, s3, _, s5⟩, q0, q1, q2, q3, q4, q5, q6, q7⟩ := (hsl1.keep (keep_lt hbel)).rule hin
          rw [← insAt_some hx] at s5
          have hn5 : (insAt l i).length = n5 := s5.1
          have hm5 : n5 ≤ 9223372036854775807 := s5.2.1
          have ho2 := (HOK.out.ins i).1
          have HS5 := Lib.hid (fun (W : World) (hW : Below w1.heap.size w1 W) => s5.keep (w' := W) (fun b (hb : b < w1.heap.size) => (hW.block b hb).trans (hbel.block b hb).symm))
          have HM := Lib.hid hM
          clear hi hx s3 s5 hM q0 q1 q2 q3 q4 q5 q6
          go_wp2
          go_loopw [46] (fun jv wx => ∃ (t mm : Nat), t ≤ n5 ∧ jv = .int .i64 t ∧ mm ≤ k * 1000 + t ∧ MapIs Tryz.prog 9 wx mb mm (setOf (srcK l (out.take k) ++ srcOf l ((insAt l i).take t))) ∧ Below w1.heap.size w1 wx) (fun jv _ => n5 - (intOf jv).toNat)
          case atStart => exact ⟨0, nn, Nat.zero_le _, rfl, by omega, by simpa [srcOf] using HM.out, hbel⟩
          case round =>
            clear hbel HM hnn q7 ci
            obtain ⟨t, mm, ht, rfl, hmm, hM, hbel⟩ := hrel
            by_cases htn : t < n5
            · have htI : (t : Int) < (n5 : Int) := by omega
              obtain ⟨b1, o1, p, rfl, _, hp, hps, cp⟩ := (HS5.out _ hbel).str htn
              have HP := Lib.hid hp; clear hp
              have hP2 := HPa.out.call hbel
              have pc := hP2.cell (i := 1) rfl
              have hgl2 := hP2.lt
              have hlk := of_lookup (HOf.out.call hbel) hps
              rw [of_there HL.out] at hlk
              generalize (ofAt l n 0 p.data.toList).getD (.int .i64 0) = vv at hlk
              clear hP2
              cases hj : idxOut l p with
              | none =>
                have HS := Lib.hid (srcOf_yes HP.out hj)
                rw [hj] at hlk
                simp only [Option.isSome_none] at hlk
                have HSM := Lib.hid (fun key => set_more (srcK l (out.take k) ++ srcOf l ((insAt l i).take t)) p.data.toList key)
                clear hj
                go_wp2_with (at_mapUpdate; refine wpList_mapUpdate_is _ rfl _ _ _ 72 rfl Tryz.underlying9 Tryz.underlying72 rfl hM (by unfold maxLen; omega) p hps (.bool true) rfl rfl ?_; intro w4 hmap4 hg4)
                have hM4 := hmap4.congr HSM.out
                rw [List.append_assoc, ← HS.out] at hM4
                have hb4 := hbel.grown hg4 hbel.size fun k hk => by cases hk; omega
                clear hmap4 hg4 hM hbel hlk pc cp
                go_wp2
                go_roundw
                case rel => exact ⟨t + 1, mm + 1, by omega, by go_num, by omega, hM4, hb4⟩
                case measure => simp [intOf]; omega
              | some j =>
                have hS := srcOf_no HP.out hj
                rw [hj] at hlk
                simp only [Option.isSome_some] at hlk
                have HM4 := Lib.hid (show MapIs Tryz.prog 9 wr mb mm (setOf (srcK l (out.take k) ++ srcOf l ((insAt l i).take (t + 1)))) by rw [hS]; exact hM)
                clear hj hS hM
                go_wp2
                go_roundw
                case rel => exact ⟨t + 1, mm, by omega, by go_num, by omega, HM4.out, hbel⟩
                case measure => simp [intOf]; omega
            · have HM4 := Lib.hid (show MapIs Tryz.prog 9 wr mb mm (setOf (srcK l (out.take (k + 1)))) by
                have := hM
                rw [List.take_of_length_le (l := insAt l i) (by omega), ← HSm.out] at this
                exact this)
              clear hM
              go_wp2
              go_roundw
              case rel => exact ⟨k + 1, mm, by omega, by go_num, by omega, HM4.out, hbel⟩
              case measure => simp [intOf]; omega
        · rw [List.take_of_length_le (by omega)] at hM
          have HK := Lib.hid (keys_mapstringbool mb wr)
          have HS := Lib.hid (sorted_mapstringbool mb nn (setOf (srcK l out)) wr hM (by omega))
          clear hM
          go_wp2_with fail
          refine HK.out.mono ?_
          rintro e w4 ⟨rfl, rfl⟩
          go_wp2_with fail
          refine HS.out.mono ?_
          rintro e w5 ⟨ks, A8, c8, rfl, hka, _, _, hs8, hb5⟩
          have HE := Lib.hid (SrcPost.good (w := w) (c := c8) HZ.out HPl.out hka hs8 (HWF.out.trans ((hbel.trans (hb5.mono hbel.size)).mono hwz)))
          clear hka hs8 hb5 HK HS
          go_wp2
          go_ret2
          exact HE.out
    · have hne : (closErr l ws == 0) = false := by rw [beq_eq_false_iff_ne]; exact h0
      have HN := Lib.hid h0
      have HV := HPE
      obtain rfl := hbad h0
      generalize closErr l ws = f at HN HV h0 hne ⊢
      clear h0 hbad hgood hb0 hb1 HPE
      go_wp2
      go_ret2
      exact SrcPost.bad HV.out HN.out hbw
  · have hne : (checkRulesS l == 0) = false := by rw [beq_eq_false_iff_ne]; exact hr0
    have HN := Lib.hid hr0
    have HV := Lib.hid (planErr_bad (ws := ws) hr0)
    obtain rfl := hbad0 hr0
    clear hr0 hbad0 hgood0
    go_wp2
    go_ret2
    exact SrcPost.bad HV.out HN.out hb0
/-- what both hand back is one list -/
theorem order_both {l : List RuleV} {ws : List ByteArray} {w w1 w2 : World} {v1 v2 : Value} (hbad1 : planErr l ws ≠ 0 → v1 = .slice none 0 0) (hbad2 : planErr l ws ≠ 0 → v2 = .slice none 0 0)
    (hg1 : planErr l ws = 0 → ∃ out, PlanIs l ws out ∧ RowK w1 w.heap.size 9 (fun _ => False) v1 (namesAt l out)) (hb : Below w1.heap.size w1 w2) (B2 : Nat)
    (hg2 : planErr l ws = 0 → ∃ out, PlanIs l ws out ∧ RowK w2 B2 9 (fun _ => False) v2 (namesAt l out)) :
    ∃ (A1 A2 : Option Addr) (k c1 c2 : Nat) (m : List ByteArray), v1 = .slice A1 k c1 ∧ v2 = .slice A2 k c2 ∧ Sl w2 (Lt w2.heap.size) A1 k m ∧ Sl w2 (Lt w2.heap.size) A2 k m := by
  by_cases h0 : planErr l ws = 0
  · obtain ⟨out, p1, r1⟩ := hg1 h0
    obtain ⟨out2, p2, r2⟩ := hg2 h0
    obtain rfl := p1.unique p2
    obtain ⟨A1, c1, rfl, _, _, s1⟩ := r1.sl
    obtain ⟨A2, c2, rfl, _, _, s2⟩ := r2.sl
    exact ⟨A1, A2, _, c1, c2, _, rfl, rfl, sl_call s1 hb (Nat.le_refl _), s2⟩
  · exact ⟨none, none, 0, 0, 0, [], hbad1 h0, hbad2 h0, Sl.nil, Sl.nil⟩
theorem source_both {l : List RuleV} {ws : List ByteArray} {w1 w2 : World} {v1 v2 : Value} (hbad1 : planErr l ws ≠ 0 → v1 = .slice none 0 0) (hbad2 : planErr l ws ≠ 0 → v2 = .slice none 0 0)
    (hg1 : planErr l ws = 0 → ∃ out L A c, PlanIs l ws out ∧ KeysAre (setOf (srcK l out)) L ∧ v1 = .slice A L.length c ∧ Sl w1 (Lt w1.heap.size) A L.length L) (hb : Below w1.heap.size w1 w2)
    (hg2 : planErr l ws = 0 → ∃ out L A c, PlanIs l ws out ∧ KeysAre (setOf (srcK l out)) L ∧ v2 = .slice A L.length c ∧ Sl w2 (Lt w2.heap.size) A L.length L) :
    ∃ (A1 A2 : Option Addr) (k c1 c2 : Nat) (m : List ByteArray), v1 = .slice A1 k c1 ∧ v2 = .slice A2 k c2 ∧ Sl w2 (Lt w2.heap.size) A1 k m ∧ Sl w2 (Lt w2.heap.size) A2 k m := by
  by_cases h0 : planErr l ws = 0
  · obtain ⟨out, L1, A1, c1, p1, k1, e1, s1⟩ := hg1 h0
    obtain ⟨out2, L2, A2, c2, p2, k2, e2, s2⟩ := hg2 h0
    obtain rfl := p1.unique p2
    obtain rfl := k1.unique k2 fun _ => rfl
    exact ⟨A1, A2, _, c1, c2, _, e1, e2, sl_call s1 hb (Nat.le_refl _), s2⟩
  · exact ⟨none, none, 0, 0, 0, [], hbad1 h0, hbad2 h0, Sl.nil, Sl.nil⟩
set_option maxHeartbeats 2000000 in
set_option maxRecDepth 100000 in
theorem law_orders (A B : Option Addr) (n c m d : Nat) (l : List RuleV) (ws : List ByteArray) (w : World) (hE : Env w) (hsl : Sl w (Lt w.heap.size) A n l) (hws : Sl w (Lt w.heap.size) B m ws) :
    Calls Tryz.prog 6 #[.slice A n c, .slice B m d] w fun e w' => e = .returned (.bool true) ∧ Below w.heap.size w w' := by
  go_enter Tryz.func6, Tryz.ntmps6
  go_wp2_with fail
  refine (steps_Order A B n c m d l ws w hE hsl hws).mono ?_
  rintro e w1 ⟨v1, rfl, hbad1, hgood1, b1⟩
  go_wp2_with fail
  refine (ref6_Order A B n c m d l ws w1 (hE.then_ b1) (sl_call hsl b1 (Nat.le_refl _)) (sl_call hws b1 (Nat.le_refl _))).mono ?_
  rintro e w2 ⟨v2, rfl, hbad2, hgood2, b2⟩
  have b12 := fr_call b1 b2
  obtain ⟨A1, A2, k, c1, c2, m1, rfl, rfl, s1, s2⟩ := order_both hbad1 hbad2 hgood1 b2 _ hgood2
  clear hbad1 hbad2 hgood1 hgood2 b1 b2
  go_wp2_with fail
  refine (steps_Sources A B n c m d l ws w2 (hE.then_ b12) (sl_call hsl b12 (Nat.le_refl _)) (sl_call hws b12 (Nat.le_refl _))).mono ?_
  rintro e w3 ⟨v3, rfl, hbad3, hgood3, b3⟩
  have b13 := fr_call b12 b3
  go_wp2_with fail
  refine (ref6_Sources A B n c m d l ws w3 (hE.then_ b13) (sl_call hsl b13 (Nat.le_refl _)) (sl_call hws b13 (Nat.le_refl _))).mono ?_
  rintro e w4 ⟨v4, rfl, hbad4, hgood4, b4⟩
  obtain ⟨A3, A4, k2, c3, c4, m2, rfl, rfl, s3, s4⟩ := source_both hbad3 hbad4 hgood3 b4 hgood4
  have b34 := fr_call b3 b4
  have b14 := fr_call b13 b4
  have t1 := sl_call s1 b34 (Nat.le_refl _)
  have t2 := sl_call s2 b34 (Nat.le_refl _)
  clear hbad3 hbad4 hgood3 hgood4 s1 s2 b3 b4 b12 b13
  generalize planErr l ws = f
  go_wp2_with fail
  refine (equal_strings A1 A2 k c1 c2 m1 w4 t1 t2).mono ?_
  rintro e w5 ⟨rfl, b5⟩
  have b15 := fr_call b14 b5
  go_wp2_with fail
  refine (equal_strings A3 A4 k2 c3 c4 m2 w5 (sl_call s3 b5 (Nat.le_refl _)) (sl_call s4 b5 (Nat.le_refl _))).mono ?_
  rintro e w6 ⟨rfl, b6⟩
  have b16 := fr_call b15 b6
  go_wp2_with fail
  refine (law6_awake w6 (hE.then_ b16)).mono ?_
  rintro e w7 ⟨rfl, b7⟩
  go_wp2
  go_ret
  exact ⟨rfl, fr_call b16 b7⟩
end Go.Proofs.Sm

namespace Go.Proofs.Sm
open Go.RowKit

theorem list_eq {x y : ByteArray} (h : x.toList = y.toList) : x = y := bytes_eq (by rw [← Lib.toList_data, ← Lib.toList_data]; exact h)
theorem any_eqS {l : List ByteArray} {s : ByteArray} : l.any (eqS s) = true ↔ s ∈ l := by
  rw [List.any_eq_true]
  constructor
  · rintro ⟨x, hx, he⟩
    rw [eqS, beq_iff_eq] at he
    rw [← list_eq he]; exact hx
  · intro h
    exact ⟨s, h, by rw [eqS, beq_iff_eq]⟩
theorem any_noS {l : List ByteArray} {s : ByteArray} : l.any (eqS s) = false ↔ s ∉ l := by
  rw [← any_eqS, Bool.not_eq_true]
theorem idxAll_mem {l : List RuleV} : ∀ {ws : List ByteArray} {ks : List Nat}, idxAll l ws = some ks → ∀ x ∈ ws, ∃ k ∈ ks, idxName l x = some k
  | [], ks, h, x, hx => by simp at hx
  | s :: r, ks, h, x, hx => by
    rw [idxAll] at h
    split at h
    · cases h
    · rename_i j hj
      cases hr : idxAll l r with
      | none => rw [hr] at h; cases h
      | some m =>
        rw [hr] at h; cases h
        rcases List.mem_cons.1 hx with rfl | hx
        · exact ⟨j, by simp, hj⟩
        · obtain ⟨k, hk, he⟩ := idxAll_mem hr x hx
          exact ⟨k, by simp [hk], he⟩
theorem idxAll_of {l : List RuleV} : ∀ {ws : List ByteArray} {ks : List Nat}, idxAll l ws = some ks → ∀ k ∈ ks, ∃ x ∈ ws, idxName l x = some k
  | [], ks, h, k, hk => by cases h; simp at hk
  | s :: r, ks, h, k, hk => by
    rw [idxAll] at h
    split at h
    · cases h
    · rename_i j hj
      cases hr : idxAll l r with
      | none => rw [hr] at h; cases h
      | some m =>
        rw [hr] at h; cases h
        rcases List.mem_cons.1 hk with rfl | hk
        · exact ⟨s, by simp, hj⟩
        · obtain ⟨x, hx, he⟩ := idxAll_of hr k hk
          exact ⟨x, by simp [hx], he⟩
theorem idxName_at {l : List RuleV} {x : ByteArray} {k : Nat} (h : idxName l x = some k) : nameAt l k = x := by
  obtain ⟨_, r, hr, he⟩ := idxName_some h
  rw [nameAt_some hr]
  exact list_eq he
theorem names_one {l : List RuleV} (h : checkRulesS l = 0) {i j : Nat} (hi : i < l.length) (hj : j < l.length) (he : nameAt l i = nameAt l j) : i = j := by
  have hs := (rules_sorted h).1
  obtain ⟨x, hx⟩ := at_lt hi
  obtain ⟨y, hy⟩ := at_lt hj
  rw [nameAt_some hx, nameAt_some hy] at he
  have no : ¬ ltS x.name y.name = true := fun h => ltS_ne h (by rw [he])
  have no' : ¬ ltS y.name x.name = true := fun h => ltS_ne h (by rw [he])
  rcases Nat.lt_trichotomy i j with h1 | h1 | h1
  · exact absurd (hs i j _ _ h1 (asFiles_at hx) (asFiles_at hy)) no
  · exact h1
  · exact absurd (hs j i _ _ h1 (asFiles_at hy) (asFiles_at hx)) no'
theorem edges_mem {l : List RuleV} {e : VarV} : e ∈ edgesS l ↔ ∃ i m, i < l.length ∧ m ∈ needAt (needsS l) i ∧ e = ⟨nameAt l i, nameAt l m⟩ := by
  rw [edgesS, edgesTo, List.mem_flatMap]
  constructor
  · rintro ⟨i, hi, he⟩
    rw [edgesAt, List.mem_map] at he
    obtain ⟨m, hm, rfl⟩ := he
    exact ⟨i, m, by simpa using hi, hm, rfl⟩
  · rintro ⟨i, m, hi, hm, rfl⟩
    exact ⟨i, by simpa using hi, List.mem_map.2 ⟨m, hm, rfl⟩⟩
theorem namesAt_at {l : List RuleV} {out : List Nat} {k : Nat} {x : ByteArray} (h : (namesAt l out)[k]? = some x) : ∃ i, out[k]? = some i ∧ nameAt l i = x := by
  rw [namesAt, List.getElem?_map] at h
  cases ho : out[k]? with
  | none => rw [ho] at h; cases h
  | some i => rw [ho] at h; cases h; exact ⟨i, rfl, rfl⟩
theorem namesAt_take (l : List RuleV) (out : List Nat) (k : Nat) : (namesAt l out).take k = namesAt l (out.take k) := by rw [namesAt, namesAt, List.map_take]
theorem namesAt_drop (l : List RuleV) (out : List Nat) (k : Nat) : (namesAt l out).drop k = namesAt l (out.drop k) := by rw [namesAt, namesAt, List.map_drop]
theorem nodup_take {out : List Nat} (h : out.Nodup) {k i : Nat} (hi : out[k]? = some i) : i ∉ out.take k := by
  intro hm
  obtain ⟨j, hj⟩ := List.getElem?_of_mem hm
  rw [List.getElem?_take] at hj
  split at hj
  · rename_i hlt
    obtain ⟨h1, h2⟩ := List.getElem?_eq_some_iff.1 hi
    obtain ⟨h3, h4⟩ := List.getElem?_eq_some_iff.1 hj
    have := (List.getElem_inj h).1 (h4.trans h2.symm)
    omega
  · cases hj
structure Stood (l : List RuleV) (ws names : List ByteArray) : Prop where
  want : ∀ x ∈ ws, x ∈ names
  once : ∀ (k : Nat) (x : ByteArray), names[k]? = some x → x ∉ names.take k
  behind : ∀ (k : Nat) (x : ByteArray), names[k]? = some x → ∀ e ∈ edgesS l, e.name = x → e.value ∈ names.take k
  used : ∀ (k : Nat) (x : ByteArray), names[k]? = some x → x ∈ ws ∨ ∃ e ∈ edgesS l, e.value = x ∧ e.name ∈ names.drop k
theorem stood {l : List RuleV} {ws : List ByteArray} {out : List Nat} (hc : checkRulesS l = 0) (hp : PlanIs l ws out) : Stood l ws (namesAt l out) := by
  obtain ⟨ks, s, hks, hcl, rfl⟩ := hp
  have hpart := hcl.part hc
  have hd := orderS_done (needsS l) (isOf s)
  have hb := orderS_behind (needsS l) (isOf s)
  have hin : ∀ i, s[i]? = some true → i ∈ (orderS (needsS l) (isOf s)).1 := fun i hi =>
    order_has hpart (by rw [← hcl.len]; exact (List.getElem?_eq_some_iff.1 hi).1) (by simp [isOf, hi])
  have hso : ∀ i ∈ (orderS (needsS l) (isOf s)).1, s[i]? = some true := fun i hi => by simpa [isOf] using hd.inn i hi
  have hlt : ∀ i ∈ (orderS (needsS l) (isOf s)).1, i < l.length := fun i hi => by have := hd.lt i hi; rwa [needsS_length] at this
  generalize (orderS (needsS l) (isOf s)).1 = out at hd hb hin hso hlt
  refine ⟨fun x hx => ?_, fun k x hx hm => ?_, fun k x hx e he hn => ?_, fun k x hx => ?_⟩
  · obtain ⟨k, hk, he⟩ := idxAll_mem hks x hx
    rw [← idxName_at he]
    exact List.mem_map.2 ⟨k, hin k (hcl.has k hk), rfl⟩
  · obtain ⟨i, hi, rfl⟩ := namesAt_at hx
    rw [namesAt_take, namesAt, List.mem_map] at hm
    obtain ⟨j, hj, he⟩ := hm
    have := names_one hc (hlt j (List.mem_of_mem_take hj)) (hlt i (List.mem_of_getElem? hi)) he
    subst this
    exact nodup_take hd.nodup hi hj
  · obtain ⟨i, hi, rfl⟩ := namesAt_at hx
    obtain ⟨i', m, hi', hm, rfl⟩ := edges_mem.1 he
    have := names_one hc hi' (hlt i (List.mem_of_getElem? hi)) hn
    subst this
    rw [namesAt_take]
    exact List.mem_map.2 ⟨m, hb k i' hi m hm, rfl⟩
  · obtain ⟨i, hi, rfl⟩ := namesAt_at hx
    have hm := List.mem_of_getElem? hi
    have := hcl.least (fun i => s[i]? = some true ∧ (i ∈ ks ∨ ∃ j, s[j]? = some true ∧ i ∈ needAt (needsS l) j)) (fun k hk => ⟨hcl.has k hk, .inl hk⟩)
      (fun j hj k hk => ⟨hcl.closed j hj.1 k hk, .inr ⟨j, hj.1, hk⟩⟩) i (hso i hm)
    rcases this.2 with h | ⟨j, hj, hn⟩
    · obtain ⟨x, hx, he⟩ := idxAll_of hks i h
      rw [idxName_at he]; exact .inl hx
    · refine .inr ⟨⟨nameAt l j, nameAt l i⟩, edges_mem.2 ⟨j, i, hlt j (hin j hj), hn, rfl⟩, rfl, ?_⟩
      rw [namesAt_drop]
      refine List.mem_map.2 ⟨j, ?_, rfl⟩
      obtain ⟨p, hp⟩ := List.getElem?_of_mem (hin j hj)
      have h1 := hb p j hp i hn
      have h2 : ¬ p ≤ k := fun hpk => by
        refine nodup_take hd.nodup hi ?_
        exact List.take_subset_take_left _ hpk h1
      rw [List.mem_iff_getElem?]
      exact ⟨p - k, by rw [List.getElem?_drop, show k + (p - k) = p by omega]; exact hp⟩
/-- what is seen of the edges so far -/
def usedS (el : List VarV) (ws rest : List ByteArray) (x : ByteArray) : Bool := ws.any (eqS x) || el.any fun e => e.value.toList == x.toList && rest.any (eqS e.name)
theorem usedS_zero (ws rest : List ByteArray) (x : ByteArray) : usedS [] ws rest x = ws.any (eqS x) := by simp [usedS]
theorem usedS_more {el : List VarV} {ws rest : List ByteArray} {x : ByteArray} {t : Nat} {e : VarV} (h : el[t]? = some e) :
    usedS (el.take (t + 1)) ws rest x = (usedS (el.take t) ws rest x || (e.value.toList == x.toList && rest.any (eqS e.name))) := by
  rw [usedS, usedS, List.take_add_one, h, List.any_append]
  simp [Bool.or_assoc]
theorem Stood.all {l : List RuleV} {ws names : List ByteArray} (h : Stood l ws names) {k : Nat} {x : ByteArray} (hx : names[k]? = some x) : usedS (edgesS l) ws (names.drop k) x = true := by
  rw [usedS, Bool.or_eq_true, any_eqS, List.any_eq_true]
  rcases h.used k x hx with h1 | ⟨e, he, rfl, h2⟩
  · exact .inl h1
  · exact .inr ⟨e, he, by rw [Bool.and_eq_true, any_eqS]; exact ⟨by simp, h2⟩⟩
end Go.Proofs.Sm

namespace Go.Proofs.Sm
open Go.RowKit

theorem contains_at (A : Option Addr) (n c : Nat) (l : List ByteArray) (s : ByteArray) (W : World) (hsl : Sl W (Lt W.heap.size) A n l) :
    Calls Tryz.prog 10 #[.slice A n c, .string s] W fun e w' => e = .returned (.bool (l.any (eqS s))) ∧ w' = W := (slices_ContainsStr A n c l s W hsl).mono fun _ _ h => ⟨h.1, h.2.symm⟩
theorem quiet_joined {f : FuncId} {args : Array Value} {w : World} {a n : Nat} {v : Value} (h : Calls Tryz.prog f args (w.drewN (a + n)) fun e w' => e = .returned v ∧ w' = w.drewN (a + n)) :
    Calls Tryz.prog f args (w.drewN (a + n)) fun e w'' => e = .returned v ∧ ∃ m, w'' = w.drewN (a + m) := h.mono fun _ _ ⟨he, hm⟩ => ⟨he, n, hm⟩
set_option maxHeartbeats 4000000 in
set_option maxRecDepth 100000 in
theorem law_ordstand (A B : Option Addr) (n c m d : Nat) (l : List RuleV) (ws : List ByteArray) (w : World) (hE : Env w) (hsl : Sl w (Lt w.heap.size) A n l) (hws : Sl w (Lt w.heap.size) B m ws) :
    Calls Tryz.prog 3 #[.slice A n c, .slice B m d] w fun e w' => e = .returned (.bool true) ∧ Below w.heap.size w w' := by
  have HS := Lib.hid (edges_sizes (names_le hsl))
  have hmI : m ≤ 9223372036854775807 := hws.2.1
  go_enter Tryz.func3, Tryz.ntmps3
  go_wp2_with fail
  refine (steps_Order A B n c m d l ws w hE hsl hws).mono ?_
  rintro e w1 ⟨v1, rfl, hbad1, hgood1, b1⟩
  by_cases h0 : planErr l ws = 0
  · obtain ⟨out, hpl, hrow⟩ := hgood1 h0
    have hc0 := plan_rules h0
    have hple := (plan_lt hpl).2
    have hr5 := (rules_sorted hc0).2
    have HSt := Lib.hid (stood hc0 hpl)
    have hlen : (namesAt l out).length = out.length := by rw [namesAt, List.length_map]
    have hle : (namesAt l out).length ≤ 500 := by omega
    clear hlen hple hr5 hpl
    rw [h0]
    clear h0 hbad1 hgood1
    go_wp2_with fail
    refine (steps_Edges A n c l w1 (hE.then_ b1) (sl_call hsl b1 (Nat.le_refl _))).mono ?_
    rintro e w2 ⟨v2, rfl, _, hgood2, b2⟩
    obtain ⟨q, hq, hown⟩ := hgood2 hc0
    rw [hc0]
    obtain ⟨A2, c2, rfl, hel⟩ := edges_sl HS.out hown
    have hrow2 := hrow.call b2
    obtain ⟨A1, c1, rfl, hc1, hc1m, hs1⟩ := hrow2.sl
    have HRow := Lib.hid hrow2
    have hb12 := fr_call b1 b2
    have hws2 := sl_call hws hb12 (Nat.le_refl _)
    have hEI : (edgesS l).length ≤ 9223372036854775807 := hel.2.1
    have hNI : (namesAt l out).length ≤ 9223372036854775807 := by omega
    have hE2 := hE.then_ hb12
    clear hrow2 hrow hown hgood2 hq b1 b2 hc0 hc1 hc1m
    go_wp2
    go_loopw [8] (fun iv wr => ∃ k : Nat, k ≤ m ∧ iv = .int .i64 k ∧ Below w2.heap.size w2 wr) (fun iv _ => m - (intOf iv).toNat)
    case atStart => exact ⟨0, Nat.zero_le _, rfl, Below.refl _ _⟩
    case round =>
      obtain ⟨k, hk, rfl, hbel⟩ := hrel
      by_cases hlt : k < m
      · have hkI : (k : Int) < (m : Int) := by omega
        obtain ⟨b3, o3, x, rfl, _, hx, hxs, cx⟩ := (hws2.keep (keep_lt hbel)).str hlt
        have HY := Lib.hid (any_eqS.2 (HSt.out.want x (List.mem_of_getElem? hx)))
        clear hx
        go_wp2_with fail
        refine (slices_ContainsStr _ _ _ _ x wr (sl_call hs1 hbel (Nat.le_refl _))).mono ?_
        rintro e w3 ⟨rfl, rfl⟩
        rw [HY.out]
        go_wp2
        go_roundw
        case rel => exact ⟨k + 1, by omega, by go_num, hbel⟩
        case measure => simp [intOf]; omega
      · have HB1 := Lib.hid hbel
        go_wp2
        clear hk hlt hbel
        go_loopw [9] (fun iv wx => ∃ k : Nat, k ≤ (namesAt l out).length ∧ iv = .int .i64 k ∧ Below w2.heap.size w2 wx) (fun iv _ => (namesAt l out).length - (intOf iv).toNat)
        case atStart => exact ⟨0, Nat.zero_le _, rfl, HB1.out⟩
        case round =>
          obtain ⟨k, hk, rfl, hbel⟩ := hrel
          by_cases hlt : k < (namesAt l out).length
          · have hkI : (k : Int) < ((namesAt l out).length : Int) := by omega
            obtain ⟨b3, o3, x, rfl, _, hx, hxs, cx⟩ := (hs1.keep (keep_lt hbel)).str hlt
            obtain ⟨A', c', A5, c5, hv, hc1, hc2, r1, r2, t1, t2⟩ := cut_runs HRow.out (k := k) (by omega) (by omega)
            cases hv
            have HX := Lib.hid hx
            have HNo := Lib.hid (any_noS.2 (HSt.out.once k x hx))
            have HAll := Lib.hid (HSt.out.all hx)
            have HBe := Lib.hid (fun e he hn => any_eqS.2 (HSt.out.behind k x hx e he hn))
            have HC1 := Lib.hid (fun (y : ByteArray) (W : World) (hW : Below w2.heap.size w2 W) => contains_at _ k c1 _ y W (sl_call t1 hW (Nat.le_refl _)))
            have HC2 := Lib.hid (fun (y : ByteArray) (W : World) (hW : Below w2.heap.size w2 W) => contains_at _ ((namesAt l out).length - k) c5 _ y W (sl_call t2 hW (Nat.le_refl _)))
            clear hx t1 t2
            go_wp2
            go_quiet ((go_at_call 10; first | exact Calls.quiet_of_same (HC1.out _ _ (by first | exact hbel | exact below_drewN hbel _)) | exact quiet_joined (HC1.out _ _ (by first | exact hbel | exact below_drewN hbel _))))
            rw [HNo.out]
            go_wp2_with fail
            refine (slices_ContainsStr _ m d ws x _ (sl_call hws2 (below_drewN hbel _) (Nat.le_refl _))).mono ?_
            rintro e w5 ⟨rfl, rfl⟩
            go_wp2
            go_loopw [10, 11] (fun uv jv wx => ∃ t : Nat, t ≤ (edgesS l).length ∧ uv = .bool (usedS ((edgesS l).take t) ws ((namesAt l out).drop k) x) ∧ jv = .int .i64 t ∧ Below w2.heap.size w2 wx) (fun _ jv _ => (edgesS l).length - (intOf jv).toNat)
            case atStart => exact ⟨0, Nat.zero_le _, by rw [List.take_zero, usedS_zero], rfl, below_drewN hbel _⟩
            case round =>
              have hcx : ∀ W, Below w2.heap.size w2 W → W.cell? ⟨b3, o3 + k, none⟩ = some (.string x) := by
                intro W hW
                obtain ⟨b3', o3', x', e1, _, hx', _, cx'⟩ := (hs1.keep (keep_lt hW)).str hlt
                cases e1
                rw [HX.out] at hx'
                cases hx'
                exact cx'
              clear hbel cx
              obtain ⟨t, ht, rfl, rfl, hbel⟩ := hrel
              have cx := hcx _ hbel
              by_cases htl : t < (edgesS l).length
              · have htI : (t : Int) < ((edgesS l).length : Int) := by omega
                obtain ⟨b4, o4, e, rfl, _, he, hes, hev, c40, c41⟩ := (hel.keep (keep_lt hbel)).var htl
                have HU := Lib.hid (usedS_more (ws := ws) (rest := (namesAt l out).drop k) (x := x) he)
                have hem := List.mem_of_getElem? he
                have HHe := Lib.hid (fun hn => HBe.out e hem hn)
                clear he hem hcx
                cases hq : (e.name.toList == x.toList)
                · go_wp2
                  go_quiet (fail)
                  go_wp2
                  cases hu : usedS ((edgesS l).take t) ws ((namesAt l out).drop k) x
                  · cases hq2 : (e.value.toList == x.toList)
                    · have HN := Lib.hid (show usedS ((edgesS l).take (t + 1)) ws ((namesAt l out).drop k) x = false by rw [HU.out, hu, hq2]; rfl)
                      go_quiet (fail)
                      go_wp2
                      go_roundw
                      case rel => exact ⟨t + 1, by omega, by rw [HN.out], by go_num, by first | exact below_drewN hbel _ | exact below_drewN (below_drewN hbel _) _⟩
                      case measure => simp [intOf]; omega
                    · have HN := Lib.hid (show usedS ((edgesS l).take (t + 1)) ws ((namesAt l out).drop k) x = ((namesAt l out).drop k).any (eqS e.name) by rw [HU.out, hu, hq2]; rfl)
                      go_quiet ((go_at_call 10; first | exact Calls.quiet_of_same (HC2.out _ _ (by first | exact hbel | exact below_drewN hbel _ | exact below_drewN (below_drewN hbel _) _)) | exact quiet_joined (HC2.out _ _ (by first | exact hbel | exact below_drewN hbel _ | exact below_drewN (below_drewN hbel _) _))))
                      go_wp2
                      go_roundw
                      case rel => exact ⟨t + 1, by omega, by rw [HN.out], by go_num, by first | exact below_drewN hbel _ | exact below_drewN (below_drewN hbel _) _⟩
                      case measure => simp [intOf]; omega
                  · have HN := Lib.hid (show usedS ((edgesS l).take (t + 1)) ws ((namesAt l out).drop k) x = true by rw [HU.out, hu]; rfl)
                    go_quiet (fail)
                    go_wp2
                    go_roundw
                    case rel => exact ⟨t + 1, by omega, by rw [HN.out], by go_num, by first | exact below_drewN hbel _ | exact below_drewN (below_drewN hbel _) _⟩
                    case measure => simp [intOf]; omega
                · have HT := Lib.hid (HHe.out (list_eq (by simpa using hq)))
                  go_wp2
                  go_quiet ((go_at_call 10; first | exact Calls.quiet_of_same (HC1.out _ _ (by first | exact hbel | exact below_drewN hbel _)) | exact quiet_joined (HC1.out _ _ (by first | exact hbel | exact below_drewN hbel _))))
                  rw [HT.out]
                  go_wp2
                  cases hu : usedS ((edgesS l).take t) ws ((namesAt l out).drop k) x
                  · cases hq2 : (e.value.toList == x.toList)
                    · have HN := Lib.hid (show usedS ((edgesS l).take (t + 1)) ws ((namesAt l out).drop k) x = false by rw [HU.out, hu, hq2]; rfl)
                      go_quiet (fail)
                      go_wp2
                      go_roundw
                      case rel => exact ⟨t + 1, by omega, by rw [HN.out], by go_num, by first | exact below_drewN hbel _ | exact below_drewN (below_drewN hbel _) _⟩
                      case measure => simp [intOf]; omega
                    · have HN := Lib.hid (show usedS ((edgesS l).take (t + 1)) ws ((namesAt l out).drop k) x = ((namesAt l out).drop k).any (eqS e.name) by rw [HU.out, hu, hq2]; rfl)
                      go_quiet ((go_at_call 10; first | exact Calls.quiet_of_same (HC2.out _ _ (by first | exact hbel | exact below_drewN hbel _ | exact below_drewN (below_drewN hbel _) _)) | exact quiet_joined (HC2.out _ _ (by first | exact hbel | exact below_drewN hbel _ | exact below_drewN (below_drewN hbel _) _))))
                      go_wp2
                      go_roundw
                      case rel => exact ⟨t + 1, by omega, by rw [HN.out], by go_num, by first | exact below_drewN hbel _ | exact below_drewN (below_drewN hbel _) _⟩
                      case measure => simp [intOf]; omega
                  · have HN := Lib.hid (show usedS ((edgesS l).take (t + 1)) ws ((namesAt l out).drop k) x = true by rw [HU.out, hu]; rfl)
                    go_quiet (fail)
                    go_wp2
                    go_roundw
                    case rel => exact ⟨t + 1, by omega, by rw [HN.out], by go_num, by first | exact below_drewN hbel _ | exact below_drewN (below_drewN hbel _) _⟩
                    case measure => simp [intOf]; omega
              · rw [List.take_of_length_le (by omega), HAll.out]
                go_wp2
                go_roundw
                case rel => exact ⟨k + 1, by omega, by go_num, hbel⟩
                case measure => simp [intOf]; omega
          · go_wp2_with fail
            refine (law6_awake wr (hE2.then_ hbel)).mono ?_
            rintro e w7 ⟨rfl, b7⟩
            go_wp2
            go_ret
            exact ⟨rfl, fr_call hb12 (hbel.trans (b7.mono hbel.size))⟩
  · have hne : (planErr l ws == 0) = false := by rw [beq_eq_false_iff_ne]; exact h0
    obtain rfl := hbad1 h0
    generalize planErr l ws = f at h0 hne ⊢
    clear hbad1 hgood1
    go_wp2_with fail
    refine (law6_awake w1 (hE.then_ b1)).mono ?_
    rintro e w7 ⟨rfl, b7⟩
    go_wp2
    go_ret
    exact ⟨rfl, fr_call b1 b7⟩
end Go.Proofs.Sm

namespace Go.Proofs.YtogjdgpghpkgmaaGreatDoor.ordstand
open Go.ChangeShapes Go.WideShapes Go.ChangeAt Go.RowKit Go.Proofs.Sm

noncomputable def laidWorld (os : Os) : World := tableWorld os [(1, Rows.laid_unicode_utf8_first), (2, Rows.laid_unicode_utf8_acceptRanges)]
theorem laid_met (os : Os) (args : Array Value) : laidMet Tryz.prog Rows.stepsOrdersStandRow.laid ((laidWorld os).forCall (fun _ _ => 0) ⟨#[], args, []⟩).memory :=
  (LaidIn.of_run (l := Rows.stepsOrdersStandRow.laid) (List.range 30) 8 (by kernel_rfl) (by kernel_rfl) (by kernel_rfl) (by kernel_rfl)).met
theorem reads (os : Os) {H : Type} (enc : TypeId × Value → H) : ∃ ds places, DataW.whole enc Tryz.prog ((laidWorld os).forCall (fun _ _ => 0) ⟨#[], #[.slice none 0 0, .slice none 0 0], []⟩).memory Tryz.f3.params.toList Rows.stepsOrdersStandSpec.vars false #[Value.slice none 0 0, Value.slice none 0 0].toList 8 = some (ds, [], places) :=
  ⟨[.nil, .nil], [], by kernel_rfl⟩

set_option maxRecDepth 100000 in
theorem contract (H : Type) (enc : TypeId × Value → H) (W : World) (base : Nat) (args : Array Value) (ds gs : List (DataW H)) (before : List MemPlace)
    (hval : ∀ (j : Nat) t v, Tryz.f3.params[j]? = some t → args[j]? = some v → Value.okWide Tryz.prog W .any base t v)
    (hW : DataW.Whole enc Tryz.prog Tryz.f3.params.toList Rows.stepsOrdersStandSpec.vars false W args.toList ds gs before) (hE : Env W) :
    Calls Tryz.prog 3 args W fun e W' => ∃ v, e = .returned v ∧ Rows.stepsOrdersStandSpec.post enc Tryz.prog Tryz.f3 false true false false W args v W' := by
  have hW' := hW
  obtain ⟨p, q, hA0, hV, rfl, hfz, hnd⟩ := hW
  have hA : DataW.TrodAll enc Tryz.prog W 0 (fun _ => true) true Tryz.f3.params.toList args.toList ds p := hA0
  rw [Tryz.params3] at hA hval
  obtain ⟨v0, vs0, d0, ds0, p0, q0, hargs, rfl, rfl, h0, r0⟩ := trodAll_cons hA
  obtain ⟨v1, vs1, d1, ds1, p1, q1, rfl, rfl, rfl, h1, r1⟩ := trodAll_cons r0
  obtain ⟨rfl, rfl, rfl⟩ := trodAll_nil r1
  obtain rfl : args = #[v0, v1] := by cases args; simp_all
  obtain ⟨rfl, rfl⟩ := trodVars_none hV
  have k0 := h0
  have lt0 : ∀ x ∈ p0, x.block < W.heap.size := by obtain ⟨m, hm⟩ := k0; exact DataW.trod_lt m _ _ _ hm
  have k1 := h1
  have lt1 : ∀ x ∈ p1, x.block < W.heap.size := by obtain ⟨m, hm⟩ := k1; exact DataW.trod_lt m _ _ _ hm
  obtain ⟨A0, n0, c0, l0, rfl, hs0⟩ := arg_slice dec_rules (okWide_slice Tryz.underlying22 (hval 0 22 v0 rfl rfl)) h0
  obtain ⟨A1, n1, c1, l1, rfl, hs1⟩ := arg_slice dec_strs (okWide_slice Tryz.underlying23 (hval 1 23 v1 rfl rfl)) h1
  clear hA0
  refine (law_ordstand A0 A1 n0 c0 n1 c1 l0 l1 W hE hs0 hs1).mono fun e W' ⟨he, bel⟩ => ?_
  subst he
  exact ⟨_, rfl, _, _, _, [], _, [], hW', trodAll_mk1 (shut_bool Tryz.underlying4 _), (trodAll_cons_mk (Below.trod laidOut (by kernel_rfl) (of_decide_eq_true (by kernel_rfl)) k0 bel lt0) (trodAll_cons_mk (Below.trod laidOut (by kernel_rfl) (of_decide_eq_true (by kernel_rfl)) k1 bel lt1) trodAll_mk0)), rfl, bel.frame _, fun h => by cases h⟩

set_option maxRecDepth 100000 in
theorem lifted (os : Os) (started : os.Started) (H : Type) (enc : TypeId × Value → H) (F : Stop.Interp) :
    ReturnsInHanded {} Tryz.checked os 3 .any ((OpenSpec.ofChange Rows.stepsOrdersStandSpec).preRow enc Tryz.prog Tryz.f3 Rows.stepsOrdersStandRow.domain false Rows.stepsOrdersStandRow.laid) (((OpenSpec.ofChange Rows.stepsOrdersStandSpec).at F).post enc Tryz.prog Tryz.f3 false true false false) := by
  obtain ⟨d, places, hx⟩ := reads os enc
  refine returnsInHanded_of_row (C := Tryz.checked) (s := OpenSpec.ofChange Rows.stepsOrdersStandSpec) own started (by kernel_rfl) Tryz.func3
    (witness_row_atRef (enc := enc) (C := Tryz.checked) false (laidWorld os) #[.slice none 0 0, .slice none 0 0] rfl (by kernel_rfl) (by kernel_rfl) (by kernel_rfl)
      (OpenSpec.preRow_of_cond 8 hx (by kernel_rfl) (fun k hk => by cases hk) (by kernel_rfl) (laid_met os _))) ?_
  intro W base args ds gs before hval hW _ _ _ hL hS _
  exact contract H enc W base args ds gs before hval hW (env_of hL hS (by simp [Rows.stepsOrdersStandRow, Rows.laid_unicode_utf8_first]) (by simp [Rows.stepsOrdersStandRow]))

theorem said : Rows.StepsOrdersStandSaid :=
  OpenClaim.holds_of_cond 3 Tryz.f3 rfl rfl rfl rfl rfl rfl rfl ⟨rfl, rfl, rfl, rfl, rfl⟩ rfl rfl rfl rfl rfl (by kernel_rfl) Tryz.func3 closed
    (of_decide_eq_true (by as_aux_lemma => kernel_rfl)) (by unfold Func.isWrapper; first | (rw [if_pos (by decide +kernel)]; kernel_rfl) | (rw [if_neg (by decide +kernel)]; exact ⟨rfl, rfl⟩))
    (fun os started H enc _ F => by rw [OpenClaim.pre_eq_preRow]; exact lifted os started H enc F)

theorem plain (f : FuncId) (fn : Func) (hf : Tryz.pinned.checked.prog.funcNamed Rows.stepsOrdersStandRow.func = some f) (hfn : Tryz.pinned.checked.prog.funcs[f]? = some fn) :
    true = Tryz.pinned.checked.prog.looks [] ∧ ∀ (j : Nat) t, fn.params[j]? = some t → Tryz.pinned.checked.prog.wantsStandIn t = false := by
  obtain rfl : f = 3 := Option.some.inj ((show Tryz.prog.funcNamed Rows.stepsOrdersStandRow.func = some 3 by kernel_rfl).symm.trans hf) |>.symm
  obtain rfl : fn = Tryz.f3 := (Option.some.inj (Tryz.func3.symm.trans hfn)).symm
  refine ⟨by kernel_rfl, fun j t ht => ?_⟩
  rw [Tryz.params3] at ht
  have hm : t = 22 ∨ t = 23 := by simpa using Array.mem_of_getElem? ht
  rcases hm with rfl | rfl
  · exact (show Tryz.prog.wantsStandIn 22 = false by kernel_rfl)
  · exact (show Tryz.prog.wantsStandIn 23 = false by kernel_rfl)

/-- The card. -/
theorem card : Rows.StepsOrdersStandCardSaid :=
  Claim7.holds_tied_plain_at .later [] _ _ _ _ said (fun _ h => by cases h) (by as_aux_lemma => kernel_rfl) (fun _ h => by cases h) stepsOrdersStand_row_tie rfl ⟨rfl, rfl⟩ (by as_aux_lemma => kernel_rfl) rfl plain (by as_aux_lemma => kernel_rfl)
end Go.Proofs.YtogjdgpghpkgmaaGreatDoor.ordstand
