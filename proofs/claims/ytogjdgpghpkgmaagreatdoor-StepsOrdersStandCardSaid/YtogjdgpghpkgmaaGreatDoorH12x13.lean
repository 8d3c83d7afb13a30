/- Walks: a string put to others, by the reference: the walk. -/
import Derived.Test.YtogjdgpghpkgmaaGreatDoorH12x12
import Derived.Test.YtogjdgpghpkgmaaGreatDoorH10x10
import Derived.Test.YtogjdgpghpkgmaaGreatDoorH10x7
namespace Go.Proofs.Sm
open Go.RowKit

theorem Grid.slFrom {w : World} {B g : Nat} {S : Nat → Prop} {tS tI : TypeId} {rows : List (List Nat)} (h : Grid w B S g tS tI rows) (hm : rows.length ≤ maxLen) : Sl w (fun k => g ≤ k ∧ k < w.heap.size) (some ⟨g, 0, none⟩) rows.length rows := by
  obtain ⟨vs, ha, hl, hr, _⟩ := h.vals
  refine ⟨rfl, hm, fun _ => ⟨g, 0, rfl, ⟨Nat.le_refl _, ha.lt⟩, fun i x hx => ?_⟩⟩
  have hi : i < rows.length := (List.getElem?_eq_some_iff.1 hx).1
  obtain ⟨v, hv⟩ := at_lt (l := vs) (k := i) (by omega)
  obtain ⟨A, c, rfl, h1, h2, h3⟩ := (hr i v x hv hx).1.slFrom
  refine ⟨[.slice A x.length c], ⟨A, _, c, rfl, h1, h2, h3.more fun k hk => ⟨by have := h.low; omega, hk.2⟩⟩, fun j u hu => ?_⟩
  cases j with
  | succ j => simp at hu
  | zero =>
    obtain rfl : Value.slice A x.length c = u := by simpa using hu
    have := ha.cell hv
    simpa [Rep.sz] using this
set_option maxHeartbeats 2000000 in
set_option maxRecDepth 100000 in
theorem ref6_needsF (A : Option Addr) (n c : Nat) (l : List RuleV) (w : World) (hsl : Sl w (Lt w.heap.size) A n l) (hn : n ≤ 1000000) :
    Calls Tryz.prog 25 #[.slice A n c] w fun e w' => e = .returned (.slice (some ⟨w.heap.size, 0, none⟩) n n) ∧ Sl w' (fun k => w.heap.size ≤ k ∧ k < w'.heap.size) (some ⟨w.heap.size, 0, none⟩) n (needsS l) ∧ Below w.heap.size w w' := by
  obtain ⟨s0, hs0, hsz0, hsz1, hsz2⟩ := info_parts ints_info
  obtain ⟨i0, hi0, hz0, hz1, hz2'⟩ := info_parts int_info
  have hm : n ≤ 9223372036854775807 := by omega
  have hng : l.length = n := hsl.1
  obtain ⟨q, hq⟩ : ∃ q, q = w.heap.size := ⟨_, rfl⟩
  rw [← hq] at hsl ⊢
  go_enter Tryz.func25, Tryz.ntmps25
  go_wp2_with (at_make; refine wpList_make_full _ rfl _ _ 61 rfl w.heap.size 42 s0 (.slice none 0 0) 1 Tryz.underlying61 hs0 hsz0 hsz1 .i64 .i64 (n : Nat) (n : Nat) n rfl rfl rfl rfl (by rw [hsz2]; omega) (by unfold maxLen; omega) (Nat.le_refl _) ?_; intro w1 hown hg1)
  rw [show ((.slice none 0 0 : Value).cells) = #[.slice none 0 0] from rfl, made_cells] at hown
  have ha0 := Arr.of_full hown
  have hb1 : Below w.heap.size w w1 := (Below.refl _ w).grown hg1 (Nat.le_refl _) fun k hk => by cases hk
  have hz1' : w.heap.size + 1 ≤ w1.heap.size := ha0.lt
  clear hown hg1
  rw [← hq] at ha0 hb1 hz1' ⊢
  clear hq
  have hgr0 : Grid w1 (q + 1) (fun _ => True) q 42 3 (gridAt l 0 0) := by rw [grid_start, hng]; exact Grid.made ha0 (Nat.lt_succ_self q)
  clear ha0
  go_wp2
  go_loopw [4] (fun i wr => ∃ a : Nat, a ≤ n ∧ i = .int .i64 a ∧ Grid wr (q + 1) (fun _ => True) q 42 3 (gridAt l a 0) ∧ Below q w wr ∧ q + 1 ≤ wr.heap.size) (fun i _ => n - (intOf i).toNat)
  case atStart => exact ⟨0, Nat.zero_le _, rfl, hgr0, hb1, hz1'⟩
  case round =>
    clear hgr0 hb1 hz1'
    obtain ⟨a, ha, rfl, hgr, hbel, hz⟩ := hrel
    by_cases hla : a < n
    · go_wp2
      go_loopw [5] (fun i wr => ∃ k : Nat, k ≤ n ∧ i = .int .i64 k ∧ Grid wr (q + 1) (fun _ => True) q 42 3 (gridAt l a k) ∧ Below q w wr ∧ q + 1 ≤ wr.heap.size) (fun i _ => n - (intOf i).toNat)
      case atStart => exact ⟨0, Nat.zero_le _, rfl, hgr, hbel, hz⟩
      case round =>
        clear hgr hbel hz
        obtain ⟨k, hk, rfl, hgr, hbel, hz⟩ := hrel
        have HG := Lib.hid hgr; clear hgr
        by_cases hlk : k < n
        · have haI : (a : Int) < (n : Int) := by omega
          have hkI : (k : Int) < (n : Int) := by omega
          go_wp2
          go_loopw [6, 7] (fun u j wx => ∃ t : Nat, t ≤ (outsAt l k).length ∧ j = .int .i64 t ∧ u = .bool (((outsAt l k).take t).any fun p => hasB (insAt l a) p) ∧ wx.heap = wr.heap ∧ Below q w wx) (fun _ j _ => (outsAt l k).length - (intOf j).toNat)
          case atStart => exact ⟨0, Nat.zero_le _, rfl, rfl, rfl, hbel⟩
          case round =>
            obtain ⟨t, ht, rfl, rfl, hhp, hbel2⟩ := hrel
            have HH := Lib.hid hhp; clear hhp
            obtain ⟨b, o, x, rfl, _, hx, A1, n1, c1, A2, n2, c2, A3, n3, c3, A4, n4, c4, A5, n5, c5, _, _, ⟨_, _, s3, _, s5⟩, q0, q1, q2, q3, q4, q5, q6, q7⟩ := (hsl.keep (keep_lt hbel2)).rule hlk
            obtain ⟨b', o', y, e', _, hy, A1', n1', c1', A2', n2', c2', A3', n3', c3', A4', n4', c4', A5', n5', c5', _, _, ⟨_, _, s3', _, s5'⟩, r0, r1, r2, r3, r4, r5, r6, r7⟩ := (hsl.keep (keep_lt hbel2)).rule hla
            cases e'
            have ho := Lib.hid (outsAt_some hx)
            have hi := Lib.hid (insAt_some hy)
            have hn3 : n3 = (outsAt l k).length := by rw [ho.out, s3.1]
            have hm3 : n3 ≤ 9223372036854775807 := s3.2.1
            clear hx hy q0 q1 q2 q3 q5 q6 q7 r0 r1 r2 r3 r4 r5 r6
            by_cases hlt : t < n3
            · obtain ⟨b3, o3, p, rfl, _, hp, hps, c3'⟩ := s3.str hlt
              have hp' : (outsAt l k)[t]? = some p := by rw [ho.out]; exact hp
              have HA := Lib.hid (any_hid (p := fun p => hasB (insAt l a) p) hp')
              have HC := Lib.hid (fun W (hW : W.heap = wr.heap) => (ref6_has A5' n5' c5' y.inputs p W (Lt q) (s5'.keep fun k _ => by rw [hW])).mono fun e w' h => (show e = Ending.returned (.bool (hasB (insAt l a) p)) ∧ w' = W from ⟨by rw [hi.out]; exact h.1, h.2.symm⟩))
              clear hp hp' s3 s5'
              generalize ((outsAt l k).take t).any (fun p => hasB (insAt l a) p) = U at HA ⊢
              have htI : (t : Int) < (n3 : Int) := by omega
              cases U
              · go_wp2
                go_quiet ((go_at_call 37; exact Calls.quiet_of_same (HC.out _ rfl)))
                go_wp2
                go_roundw
                case rel => exact ⟨t + 1, by omega, by go_num, by rw [HA.out]; simp, HH.out, below_drewN hbel2 _⟩
                case measure => simp [intOf]; omega
              · go_wp2
                go_quiet (fail)
                go_wp2
                go_roundw
                case rel => exact ⟨t + 1, by omega, by go_num, by rw [HA.out]; simp, HH.out, below_drewN hbel2 _⟩
                case measure => simp [intOf]; omega
            · have HU := Lib.hid (show ((outsAt l k).take t).any (fun p => hasB (insAt l a) p) = usesS l a k by rw [List.take_of_length_le (by omega), usesS])
              rw [HU.out]
              have hgr : Grid wr (q + 1) (fun _ => True) q 42 3 (gridAt l a k) := HG.out.keep (by rw [HH.out]; exact Nat.le_refl _) (by rw [HH.out]) fun _ _ _ _ => by rw [HH.out]
              have hz2 : q + 1 ≤ wr.heap.size := by rw [HH.out]; exact hz
              cases hu : usesS l a k
              · rw [← grid_same hu] at hgr
                have HG2 := Lib.hid hgr; clear hgr
                go_wp2
                go_roundw
                case rel => exact ⟨k + 1, by omega, by go_num, HG2.out, hbel2, hz2⟩
                case measure => simp [intOf]; omega
              · obtain ⟨v, cv, hrow, _, hput⟩ := hgr.at (grid_row (l := l) (k := k) (by omega : a < l.length))
                have HP := Lib.hid hput; clear hput
                obtain ⟨O, oc, rfl, ho1, ho2, _⟩ := hrow.sl
                have hle : ((List.range k).filter (usesS l a)).length ≤ k := by have := List.length_filter_le (usesS l a) (List.range k); simpa using this
                have HU2 := Lib.hid hu; clear hu
                generalize hr : (List.range k).filter (usesS l a) = r at hrow HP ho1 hle cv
                have HR := Lib.hid hr; clear hr
                have hW9 : Below wr.heap.size wr (wr.alloc (.cells #[.int .i64 (k : Int)] 3)) := fr_alloc (fr_refl wr) _
                have row9 := hrow.call hW9
                have hb9 := hbel2.trans (hW9.mono (by omega : q ≤ _))
                obtain ⟨_, rows, hrows, hown9, hrep⟩ := id row9
                have hzz := hW9.size
                clear row9 hgr
                go_wp2_with (at_builtin; refine wpList_append_lies _ rfl _ _ 42 rfl (q + 1) 3 i0 _ 1 8 Tryz.underlying42 hi0 hz0 hz1 hz2' rfl (by decide) _ r.length _ rfl hown9 ⟨wr.heap.size, 0, none⟩ 1 1 [.int .i64 (k : Int)] rfl rfl (new_cells wr #[_] _) (fun u hu => (by simp only [List.mem_cons, List.mem_nil_iff, or_false] at hu; subst hu; rfl)) (by decide) (by unfold maxLen; omega) (by omega) (by omega) _ rfl ?_)
                intro g' cap w5 hown5 hg5 hat5 hlt5
                have row5 := RowK.append (x := k) (r := [.int .i64 (k : Int)]) (fun k hh => hh.elim) hrows hrep ⟨rfl, by unfold maxLen; omega⟩ (fun _ _ hh => hh) hg5 hown5
                have hz5 := hg5.size
                have hG5 := HP.out w5 _ (r ++ [k]) (by omega) (fun k' hk' => (hg5.block k' (by omega) fun e => hk'.2 e.symm).trans (hW9.block k' hk'.1)) row5 (fun b hb => ⟨trivial, by
                  obtain rfl := slice_own6 hb
                  rcases hat5 with h1 | h1
                  · exact .inl h1
                  · exact .inr (by show wr.heap.size ≤ g'; omega)⟩)
                rw [← HR.out, grid_set HU2.out, HR.out] at hG5
                have hq5 : w5.heap[q]? = wr.heap[q]? := (hg5.block q (by omega) fun e => by have := (hrow.kind q e.symm).1; omega).trans (hW9.block q (by omega))
                have hfz : w5.frozen? ⟨q, a, none⟩ = false := by
                  obtain ⟨vs, hv, _⟩ := HG.out.vals
                  exact (hv.keep (hq5.trans (by rw [HH.out]))).frozen a
                have hlt5' : q < w5.heap.size := by omega
                obtain ⟨cv0, hcv0⟩ : ∃ u, w5.cell? ⟨q, a, none⟩ = some u := ⟨_, (World.cell?_of_block (a := ⟨q, a, none⟩) hq5).trans cv⟩
                have hb5 := (hb9.grown hg5 (by omega) fun b hb => by have := (hrow.kind b hb).1; omega).setCell (p := ⟨q, a, none⟩) (Nat.le_refl q) (.slice (some ⟨g', 0, none⟩) (r.length + 1) cap)
                have hz6 : q + 1 ≤ (w5.setCell ⟨q, a, none⟩ (.slice (some ⟨g', 0, none⟩) (r.length + 1) cap)).heap.size := by rw [size_setCell']; omega
                have HG2 := Lib.hid hG5
                clear hG5 HP hown9 hown5 hg5 hat5 hrep row5 hrow hq5
                go_wp2
                go_roundw
                case rel => exact ⟨k + 1, by omega, by go_num, HG2.out, hb5, hz6⟩
                case measure => simp [intOf]; omega
        · obtain rfl : k = n := by omega
          have hgr := HG.out
          rw [show gridAt l a k = gridAt l (a + 1) 0 by rw [← hng, grid_next]] at hgr
          have HG2 := Lib.hid hgr
          clear hgr
          go_wp2
          go_roundw
          case rel => exact ⟨a + 1, by omega, by go_num, HG2.out, hbel, hz⟩
          case measure => simp [intOf]; omega
    · obtain rfl : a = n := by omega
      rw [show gridAt l a 0 = needsS l by rw [← hng, grid_end]] at hgr
      have hS := hgr.slFrom (by rw [needsS_length]; unfold maxLen; omega)
      rw [needsS_length, hng] at hS
      have HS := Lib.hid hS
      clear hgr hS
      go_wp2
      go_ret
      exact ⟨rfl, HS.out, hbel⟩
end Go.Proofs.Sm

namespace Go.Proofs.Sm
open Go.RowKit

theorem Bfs.more {g : Graph} {ks ks' : List Nat} {s : List Bool} {row : List Nat} (h : Bfs g ks s row) (hm : ∀ x ∈ ks, x ∈ ks') : Bfs g ks' s row := ⟨h.len, h.mem, h.nodup, h.lt, fun t h1 h2 => h.least t (fun x hx => h1 x (hm x hx)) h2⟩
/-- blocks of a range are as they were -/
def KeepR (a : Nat) (W w : World) : Prop := W.heap.size ≤ w.heap.size ∧ ∀ b, a ≤ b → b < W.heap.size → w.heap[b]? = W.heap[b]?
theorem KeepR.refl (a : Nat) (W : World) : KeepR a W W := ⟨Nat.le_refl _, fun _ _ _ => rfl⟩
theorem KeepR.call {a : Nat} {W w w' : World} (h : KeepR a W w) (hb : Below w.heap.size w w') : KeepR a W w' :=
  ⟨Nat.le_trans h.1 hb.size, fun b h1 h2 => (hb.block b (Nat.lt_of_lt_of_le h2 h.1)).trans (h.2 b h1 h2)⟩
theorem KeepR.set {a : Nat} {W w : World} (h : KeepR a W w) {p : Addr} (hp : p.block < a) (u : Value) : KeepR a W (w.setCell p u) :=
  ⟨by rw [size_setCell']; exact h.1, fun b h1 h2 => (heap_setCell_other w p b u (by omega)).trans (h.2 b h1 h2)⟩
theorem KeepR.grown {a : Nat} {W w w' : World} {row : Option Nat} (h : KeepR a W w) (hg : w.grownBy w' row) (hr : ∀ g, row = some g → g < a ∨ W.heap.size ≤ g) : KeepR a W w' :=
  ⟨Nat.le_trans h.1 hg.size, fun b h1 h2 => (hg.block b (Nat.lt_of_lt_of_le h2 h.1) fun e => by have := hr b e.symm; omega).trans (h.2 b h1 h2)⟩
theorem planErr_bad {l : List RuleV} {ws : List ByteArray} (h : checkRulesS l ≠ 0) : planErr l ws = checkRulesS l := by rw [planErr, if_pos h]
theorem planErr_clos {l : List RuleV} {ws : List ByteArray} (h : checkRulesS l = 0) : planErr l ws = closErr l ws := by rw [planErr, if_neg (by rw [h]; decide), closErr]
def PlanPost (l : List RuleV) (ws : List ByteArray) (w : World) (e : Ending) (w' : World) : Prop :=
  ∃ v, e = .returned (.tuple #[v, .int .i64 (planErr l ws)]) ∧ (planErr l ws ≠ 0 → v = .slice none 0 0) ∧ (planErr l ws = 0 → ∃ out, PlanIs l ws out ∧ RowK w' w.heap.size 3 (fun _ => False) v out) ∧ Below w.heap.size w w'
theorem PlanPost.bad {l : List RuleV} {ws : List ByteArray} {w w' : World} {f : Int} (hf : planErr l ws = f) (h0 : f ≠ 0) (hb : Below w.heap.size w w') : PlanPost l ws w (.returned (.tuple #[.slice none 0 0, .int .i64 f])) w' :=
  ⟨_, by rw [hf], fun _ => rfl, fun h => absurd (hf.symm.trans h) h0, hb⟩
theorem PlanPost.good {l : List RuleV} {ws : List ByteArray} {w w' : World} {v : Value} {out : List Nat} (hf : planErr l ws = 0) (hp : PlanIs l ws out) (hr : RowK w' w.heap.size 3 (fun _ => False) v out) (hb : Below w.heap.size w w') : PlanPost l ws w (.returned (.tuple #[v, .int .i64 0])) w' :=
  ⟨_, by rw [hf], fun h => absurd hf h, fun _ => ⟨out, hp, hr⟩, hb⟩
set_option maxHeartbeats 0 in
set_option maxRecDepth 100000 in
theorem ref6_plan (A B : Option Addr) (n c m d : Nat) (l : List RuleV) (ws : List ByteArray) (w : World) (hE : Env w) (hsl : Sl w (Lt w.heap.size) A n l) (hws : Sl w (Lt w.heap.size) B m ws) :
    Calls Tryz.prog 38 #[.slice A n c, .slice B m d] w (PlanPost l ws w) := by
  obtain ⟨b0, hb0, hbz0, hbz1, hbz2⟩ := info_parts bool_info
  obtain ⟨i0, hi0, hz0, hz1, hz2⟩ := info_parts int_info
  have hm : m ≤ 9223372036854775807 := hws.2.1
  have HL := Lib.hid hsl.1
  have HW := Lib.hid hws.1
  go_enter Tryz.func38, Tryz.ntmps38
  go_wp2_with fail
  refine (ref6_CheckRules A n c l w hE hsl).mono ?_
  rintro e w1 ⟨rfl, hb1⟩
  cases h0 : (checkRulesS l == 0)
  · have hne : checkRulesS l ≠ 0 := by simpa using h0
    have hbn : (checkRulesS l != 0) = true := by simpa using h0
    have HV := Lib.hid (planErr_bad (ws := ws) hne)
    have HN := Lib.hid hne
    clear hne
    go_wp2
    go_ret2
    exact PlanPost.bad HV.out HN.out hb1
  have hz : checkRulesS l = 0 := by simpa using h0
  have HC0 := Lib.hid hz
  rw [hz]
  clear h0
  have hl5 := (rules_sorted hz).2
  have hn5 : n ≤ 500 := by have := HL.out; omega
  have HPE := Lib.hid (planErr_clos (ws := ws) hz)
  clear hz
  by_cases hbig : (500 : Int) < (m : Int)
  · have HV := Lib.hid (HPE.out.trans (clos_large (l := l) (ws := ws) (by rw [HW.out]; exact hbig)))
    go_wp2
    go_ret2
    exact PlanPost.bad HV.out (by decide) hb1
  have HB := Lib.hid (show ¬ (500 : Int) < (ws.length : Int) by rw [HW.out]; exact hbig)
  have hgn : (needsS l).length = n := by rw [needsS_length]; exact HL.out
  have HGn := Lib.hid hgn; clear hgn
  obtain ⟨q, hq⟩ : ∃ q, q = w1.heap.size := ⟨_, rfl⟩
  go_wp2_with (at_make; refine wpList_make_full _ rfl _ _ 70 rfl w1.heap.size 4 b0 (.bool false) 1 Tryz.underlying70 hb0 hbz0 hbz1 .i64 .i64 (n : Nat) (n : Nat) n rfl rfl rfl rfl (by rw [hbz2]; omega) (by unfold maxLen; omega) (Nat.le_refl _) ?_; intro w2 hown hg2)
  rw [show ((.bool false : Value).cells) = #[.bool false] from rfl, made_cells] at hown
  have ha1 := Arr.of_full hown
  have hb2 : Below w.heap.size w w2 := hb1.grown hg2 hb1.size fun k hk => by cases hk
  have hz1' : w1.heap.size + 1 ≤ w2.heap.size := ha1.lt
  have ha2 : Arr w2 w1.heap.size 4 ((List.replicate n false).map Value.bool) := by rw [List.map_replicate]; exact ha1
  have hqw : w.heap.size ≤ q := by have := hb1.size; omega
  clear hown hg2 ha1 hb1
  rw [← hq] at ha2 hz1'
  have hB0 : Bfs (needsS l) [] (List.replicate n false) [] := by have := Bfs.start (needsS l) []; rwa [HGn.out] at this
  go_wp2
  rw [← hq]
  clear hq
  go_loopw [8, 9] (fun v iv wx => ∃ (k : Nat) (ks : List Nat) (s : List Bool) (row : List Nat), k ≤ m ∧ iv = .int .i64 k ∧ idxAll l (ws.take k) = some ks ∧ RowK wx (q + 1) 3 (fun _ => False) v row ∧ Arr wx q 4 (s.map Value.bool) ∧ Bfs (needsS l) ks s row ∧ (∀ x ∈ ks, x ∈ row) ∧ q + 1 ≤ wx.heap.size ∧ Below w.heap.size w wx) (fun _ iv _ => m - (intOf iv).toNat)
  case atStart => exact ⟨0, [], _, [], Nat.zero_le _, rfl, rfl, RowK.nil, ha2, hB0, fun x hx => by simp at hx, hz1', hb2⟩
  case round =>
    clear ha2 hB0 hz1' hb2
    obtain ⟨k, ks, s, row, hk, rfl, hix, hrow, ha, hbf, hin, hz, hbel⟩ := hrel
    have HI := Lib.hid hix; clear hix
    have HIn := Lib.hid hin; clear hin
    have hmost := hbf.most
    have HBf := Lib.hid hbf; clear hbf
    have HSL := Lib.hid (show s.length = n by rw [HBf.out.len]; exact HGn.out)
    have hrn : row.length ≤ n := by have := HGn.out; omega
    by_cases hlt : k < m
    · obtain ⟨b1, o1, p, rfl, _, hp, hps, cp⟩ := (hws.keep (keep_lt hbel)).str hlt
      have HP := Lib.hid hp; clear hp
      have hkI : (k : Int) < (m : Int) := by omega
      go_wp2_with fail
      refine (ref6_find A n c l p wr _ (sl_call hsl hbel (Nat.le_refl _))).mono ?_
      rintro e w3 ⟨rfl, rfl⟩
      cases hj : idxName l p with
      | none =>
        have HV := Lib.hid (HPE.out.trans (clos_none (by have := HB.out; omega) (idx_stop HP.out hj)))
        rw [numOr_none]
        clear hj
        go_wp2
        go_ret2
        exact PlanPost.bad HV.out (by decide) hbel
      | some j =>
        have hjn : j < n := by have := (idxName_some hj).1; rwa [HL.out] at this
        have HIx := Lib.hid (idx_more HP.out HI.out hj)
        rw [numOr_some]
        have hj0 : ¬ (j : Int) < 0 := by omega
        have hjI : (j : Int) < (n : Int) := by omega
        clear hj
        obtain ⟨sv, hsv⟩ := at_lt (l := s) (k := j) (by rw [HSL.out]; exact hjn)
        have cs := ha.cell (i := j) (v := .bool sv) (by rw [List.getElem?_map, hsv]; rfl)
        cases sv
        · have HB2 := Lib.hid ((HBf.out.more (ks' := ks ++ [j]) fun x hx => by simp [hx]).add (k := j) (by rw [HGn.out]; exact hjn) hsv fun t h1 _ => h1 j (by simp))
          have HIn2 := Lib.hid (show ∀ x ∈ ks ++ [j], x ∈ row ++ [j] from fun x hx => by
            rcases List.mem_append.1 hx with h | h
            · exact List.mem_append.2 (.inl (HIn.out x h))
            · exact List.mem_append.2 (.inr h))
          clear hsv
          have hset := ha.set j (.bool true)
          rw [show (s.map Value.bool).set j (.bool true) = (s.set j true).map Value.bool by rw [List.map_set]] at hset
          have hf := ha.frozen j
          have row2 : RowK (wr.setCell ⟨q, j, none⟩ (.bool true)) (q + 1) 3 (fun _ => False) u8 row := hrow.keep (by simp) (fun _ hh => hh.elim) fun b hb => heap_setCell_other wr ⟨q, j, none⟩ b _ (by have := (hrow.kind b hb).1; show b ≠ q; omega)
          have hz2' : q + 1 ≤ (wr.setCell ⟨q, j, none⟩ (.bool true)).heap.size := by rw [size_setCell']; exact hz
          have hb2 := hbel.setCell (p := ⟨q, j, none⟩) hqw (.bool true)
          have hW9 : Below (wr.setCell ⟨q, j, none⟩ (.bool true)).heap.size (wr.setCell ⟨q, j, none⟩ (.bool true)) ((wr.setCell ⟨q, j, none⟩ (.bool true)).alloc (.cells #[.int .i64 (j : Int)] 3)) := fr_alloc (fr_refl _) _
          obtain ⟨_, rows, hrows, hown9, hrep⟩ := row2.call hW9
          have ha9 := hset.call hW9
          have hb9 := fr_call hb2 hW9
          have hoth : ∀ b, Value.ownBlock u8 = some b → q + 1 ≤ b := fun b hb => (hrow.kind b hb).1
          have hnew : ∀ (j' : Nat) u, ([.int .i64 (j : Int)] : List Value)[j']? = some u → ((wr.setCell ⟨q, j, none⟩ (.bool true)).alloc (.cells #[.int .i64 (j : Int)] 3)).cell? ((⟨wr.heap.size, 0, none⟩ : Addr).add j') = some u := fun j' u hu => by
            have := new_cells (wr.setCell ⟨q, j, none⟩ (.bool true)) #[.int .i64 (j : Int)] 3 j' u hu
            rwa [size_setCell'] at this
          have H9 := Lib.hid hown9
          have HRp := Lib.hid hrep
          have HNw := Lib.hid hnew
          have HA9 := Lib.hid ha9
          clear hrow row2 hown9 hrep ha hset hnew ha9
          go_wp2_with (at_builtin; refine wpList_append_lies _ rfl _ _ 42 rfl (q + 1) 3 i0 _ 1 8 Tryz.underlying42 hi0 hz0 hz1 hz2 rfl (by decide) _ row.length _ rfl H9.out ⟨wr.heap.size, 0, none⟩ 1 1 [.int .i64 (j : Int)] rfl rfl HNw.out (fun u hu => (by simp only [List.mem_cons, List.mem_nil_iff, or_false] at hu; subst hu; rfl)) (by decide) (by unfold maxLen; omega) (by omega) (by rw [World.size_alloc]; omega) _ rfl ?_)
          intro g' cap w5 hown5 hg5 hat5 hlt5
          have row5 := RowK.append (x := j) (r := [.int .i64 (j : Int)]) (fun k hh => hh.elim) hrows HRp.out ⟨rfl, by unfold maxLen; omega⟩ (fun _ _ hh => hh) hg5 hown5
          have ha5 := HA9.out.grown hg5 fun e => by have := hoth q e; omega
          have hb5 := hb9.grown hg5 (by have := hbel.size; rw [World.size_alloc, size_setCell']; omega) fun b hb => by have := hoth b hb; omega
          have hz5 := hg5.size
          rw [World.size_alloc, size_setCell'] at hz5
          have HR5 := Lib.hid row5
          have HA5 := Lib.hid ha5
          clear row5 ha5 hown5 H9 HRp HNw HA9 hb9 hb2
          clear hg5 hat5
          go_wp2
          go_roundw
          case rel => exact ⟨k + 1, ks ++ [j], s.set j true, row ++ [j], by omega, by go_num, HIx.out, HR5.out, HA5.out, HB2.out, HIn2.out, by omega, hb5⟩
          case measure => simp [intOf]; omega
        · have HB2 := Lib.hid (HBf.out.more (ks' := ks ++ [j]) fun x hx => by simp [hx])
          have HIn2 := Lib.hid (show ∀ x ∈ ks ++ [j], x ∈ row from fun x hx => by
            rcases List.mem_append.1 hx with h | h
            · exact HIn.out x h
            · obtain rfl : x = j := by simpa using h
              exact (HBf.out.mem x).1 hsv)
          have HR2 := Lib.hid hrow
          have HA2 := Lib.hid ha
          clear hsv hrow ha
          go_wp2
          go_roundw
          case rel => exact ⟨k + 1, ks ++ [j], s, row, by omega, by go_num, HIx.out, HR2.out, HA2.out, HB2.out, HIn2.out, hz, hbel⟩
          case measure => simp [intOf]; omega
    · rw [List.take_of_length_le (by rw [HW.out]; omega)] at HI
      go_wp2_with fail
      refine (ref6_needsF A n c l wr (sl_call hsl hbel (Nat.le_refl _)) (by omega)).mono ?_
      rintro e w4 ⟨rfl, hnd, hb4⟩
      have hrow4 := hrow.call hb4
      have ha4 := ha.call hb4
      have hb04 := fr_call hbel hb4
      have hz4 := hb4.size
      have hown4 : ∀ b, Value.ownBlock u8 = some b → b < wr.heap.size ∨ w4.heap.size ≤ b := fun b hb => .inl (hrow.lt2 b hb)
      obtain ⟨g4, hg4⟩ : ∃ g4, g4 = wr.heap.size := ⟨_, rfl⟩
      rw [← hg4] at hnd hown4
      have hqg4 : q < g4 := by omega
      have hz04 : q + 1 ≤ w4.heap.size := by omega
      clear hrow ha hbel hb4
      go_wp2
      rw [← hg4]
      clear hg4
      go_loopw [8, 12] (fun v iv wx => ∃ (a : Nat) (s : List Bool) (row : List Nat), a ≤ row.length ∧ iv = .int .i64 a ∧ RowK wx (q + 1) 3 (fun _ => False) v row ∧ Arr wx q 4 (s.map Value.bool) ∧ Bfs (needsS l) ks s row ∧ (∀ x ∈ ks, x ∈ row) ∧ (∀ (i x : Nat), i < a → row[i]? = some x → ∀ y ∈ needAt (needsS l) x, y ∈ row) ∧ (∀ b, v.ownBlock = some b → b < g4 ∨ w4.heap.size ≤ b) ∧ KeepR g4 w4 wx ∧ q + 1 ≤ wx.heap.size ∧ Below w.heap.size w wx) (fun _ iv _ => n - (intOf iv).toNat)
      case atStart => exact ⟨0, s, row, Nat.zero_le _, rfl, hrow4, ha4, HBf.out, HIn.out, fun i x hi => absurd hi (by omega), hown4, KeepR.refl _ _, hz04, hb04⟩
      case round =>
        clear hrow4 ha4 HBf HIn hown4 hz04 hb04 hrn hmost HSL hz hlt
        obtain ⟨a, s, row, hal, rfl, hrow, ha, hbf, hin, hcl, hown, hkp, hz, hbel⟩ := hrel
        have HIn := Lib.hid hin; clear hin
        have HCl := Lib.hid hcl; clear hcl
        have HOwn := Lib.hid hown; clear hown
        have hmost := hbf.most
        have HBf := Lib.hid hbf; clear hbf
        have HSL := Lib.hid (show s.length = n by rw [HBf.out.len]; exact HGn.out)
        have hrn : row.length ≤ n := by have := HGn.out; omega
        obtain ⟨O, oc, rfl⟩ := hrow.form
        by_cases hla : a < row.length
        · have haI : (a : Int) < (row.length : Int) := by omega
          obtain ⟨A7, c7, e7, h71, h72, hs7⟩ := hrow.sl
          cases e7
          obtain ⟨b7, o7, x, rfl, _, hx, hxm, cx⟩ := hs7.nat hla
          have hxr := List.mem_of_getElem? hx
          have hxn : x < n := by have := HBf.out.lt x hxr; rwa [HGn.out] at this
          have hxI : (x : Int) < (n : Int) := by omega
          have hndx : Sl wr (fun k => g4 ≤ k ∧ k < w4.heap.size) (some ⟨g4, 0, none⟩) n (needsS l) := hnd.keep fun b hb => hkp.2 b hb.1 hb.2
          obtain ⟨bD, oD, r, A8, n8, c8, eD, hbD, hr8, hn8, hc8, hrow8, cD⟩ := hndx.row hxn
          cases eD
          rw [Nat.zero_add] at cD
          have HR8 := Lib.hid (need_row hr8)
          have hl8 : (needAt (needsS l) x).length = n8 := by rw [HR8.out]; exact hrow8.1
          have h85 : n8 ≤ 500 := by have := needAt_len l x; omega
          have HL8 := Lib.hid hl8
          have hm8 : n8 ≤ 9223372036854775807 := by omega
          have H8 := Lib.hid (fun (W : World) (hW : KeepR g4 w4 W) => hrow8.keep (w' := W) fun b hb => (hW.2 b hb.1 hb.2).trans (hkp.2 b hb.1 hb.2).symm)
          have HX := Lib.hid hx
          have HXr := Lib.hid hxr
          have hmr : row.length ≤ 9223372036854775807 := by omega
          clear hr8 hl8 hx hxr hrow8 hs7 hndx
          go_wp2
          go_loopw [8, 14] (fun v iv wy => ∃ (t : Nat) (s2 : List Bool) (ex : List Nat), t ≤ n8 ∧ iv = .int .i64 t ∧ RowK wy (q + 1) 3 (fun _ => False) v (row ++ ex) ∧ Arr wy q 4 (s2.map Value.bool) ∧ Bfs (needsS l) ks s2 (row ++ ex) ∧ (∀ y ∈ (needAt (needsS l) x).take t, y ∈ row ++ ex) ∧ (∀ b, v.ownBlock = some b → b < g4 ∨ w4.heap.size ≤ b) ∧ KeepR g4 w4 wy ∧ q + 1 ≤ wy.heap.size ∧ Below w.heap.size w wy) (fun _ iv _ => n8 - (intOf iv).toNat)
          case atStart => exact ⟨0, s, [], Nat.zero_le _, rfl, by rw [List.append_nil]; exact hrow, ha, by rw [List.append_nil]; exact HBf.out, fun y hy => by simp at hy, HOwn.out, hkp, hz, hbel⟩
          case round =>
            clear hrow ha HBf HOwn hkp hz hbel cx cD HSL hmost
            obtain ⟨t, s, ex, ht, rfl, hrow, ha, hbf, hcl2, hown, hkp, hz, hbel⟩ := hrel
            have HCl2 := Lib.hid hcl2; clear hcl2
            have HOwn := Lib.hid hown; clear hown
            have hmost := hbf.most
            have HBf := Lib.hid hbf; clear hbf
            have HSL := Lib.hid (show s.length = n by rw [HBf.out.len]; exact HGn.out)
            by_cases hlt : t < n8
            · have htI : (t : Int) < (n8 : Int) := by omega
              obtain ⟨b3, o3, j, rfl, hb3, hj, hjm, cj⟩ := (H8.out wr hkp).nat hlt
              rw [← HR8.out] at hj
              have hjx := List.mem_of_getElem? hj
              have hjn : j < n := by have := needs_within l x j hjx; rwa [HGn.out] at this
              have hjI : (j : Int) < (n : Int) := by omega
              obtain ⟨sv, hsv⟩ := at_lt (l := s) (k := j) (by rw [HSL.out]; exact hjn)
              have cs := ha.cell (i := j) (v := .bool sv) (by rw [List.getElem?_map, hsv]; rfl)
              have HTk := Lib.hid (show (needAt (needsS l) x).take (t + 1) = (needAt (needsS l) x).take t ++ [j] by rw [List.take_add_one, hj]; rfl)
              have HJx := Lib.hid hjx
              obtain ⟨row0, hrow0⟩ : ∃ row0, row0 = row := ⟨_, rfl⟩
              rw [← hrow0] at HBf HCl2 hrow HXr hmost ⊢
              cases sv
              · have HB2 := Lib.hid (HBf.out.add (k := j) (by rw [HGn.out]; exact hjn) hsv fun t h1 h2 => h2 x (HBf.out.least t h1 h2 x (by simp [HXr.out])) j HJx.out)
                have HC2 := Lib.hid (show ∀ y ∈ (needAt (needsS l) x).take (t + 1), y ∈ row0 ++ (ex ++ [j]) from fun y hy => by
                  rw [HTk.out] at hy
                  rw [← List.append_assoc]
                  rcases List.mem_append.1 hy with h | h
                  · exact List.mem_append.2 (.inl (HCl2.out y h))
                  · exact List.mem_append.2 (.inr h))
                rw [List.append_assoc] at HB2
                have hel : (row0 ++ ex).length ≤ 500 := by have := HGn.out; omega
                obtain ⟨row1, hrow1⟩ : ∃ row1, row1 = row0 ++ ex := ⟨_, rfl⟩
                have HR1 := Lib.hid (show row1 ++ [j] = row0 ++ (ex ++ [j]) by rw [hrow1, List.append_assoc])
                rw [← hrow1] at hrow hel
                clear hsv hrow0 hrow1 hj hjx hmost
                have hbq : b3 ≠ q := by have : g4 ≤ b3 ∧ b3 < w4.heap.size := hb3; omega
                have hkset := hkp.set (p := ⟨q, j, none⟩) (by show q < g4; exact hqg4) (.bool true)
                have cj2 : (wr.setCell ⟨q, j, none⟩ (.bool true)).cell? ⟨b3, o3 + t, none⟩ = some (.int .i64 (j : Int)) := (World.cell?_of_block (a := ⟨b3, o3 + t, none⟩) (heap_setCell_other wr ⟨q, j, none⟩ b3 _ hbq)).trans cj
                have hset := ha.set j (.bool true)
                rw [show (s.map Value.bool).set j (.bool true) = (s.set j true).map Value.bool by rw [List.map_set]] at hset
                have hf := ha.frozen j
                have row2 : RowK (wr.setCell ⟨q, j, none⟩ (.bool true)) (q + 1) 3 (fun _ => False) u8 row1 := hrow.keep (by simp) (fun _ hh => hh.elim) fun b hb => heap_setCell_other wr ⟨q, j, none⟩ b _ (by have := (hrow.kind b hb).1; show b ≠ q; omega)
                have hz2' : q + 1 ≤ (wr.setCell ⟨q, j, none⟩ (.bool true)).heap.size := by rw [size_setCell']; exact hz
                have hb2 := hbel.setCell (p := ⟨q, j, none⟩) hqw (.bool true)
                have hW9 : Below (wr.setCell ⟨q, j, none⟩ (.bool true)).heap.size (wr.setCell ⟨q, j, none⟩ (.bool true)) ((wr.setCell ⟨q, j, none⟩ (.bool true)).alloc (.cells #[.int .i64 (j : Int)] 3)) := fr_alloc (fr_refl _) _
                obtain ⟨_, rows, hrows, hown9, hrep⟩ := row2.call hW9
                have ha9 := hset.call hW9
                have hb9 := fr_call hb2 hW9
                have hk9 := hkset.call hW9
                have hoth : ∀ b, Value.ownBlock u8 = some b → q + 1 ≤ b := fun b hb => (hrow.kind b hb).1
                have hnew : ∀ (j' : Nat) u, ([.int .i64 (j : Int)] : List Value)[j']? = some u → ((wr.setCell ⟨q, j, none⟩ (.bool true)).alloc (.cells #[.int .i64 (j : Int)] 3)).cell? ((⟨wr.heap.size, 0, none⟩ : Addr).add j') = some u := fun j' u hu => by
                  have := new_cells (wr.setCell ⟨q, j, none⟩ (.bool true)) #[.int .i64 (j : Int)] 3 j' u hu
                  rwa [size_setCell'] at this
                have H9 := Lib.hid hown9
                have HRp := Lib.hid hrep
                have HNw := Lib.hid hnew
                have HA9 := Lib.hid ha9
                have HK9 := Lib.hid hk9
                have hw4r := hkp.1
                clear hrow row2 hown9 hrep ha hset hnew ha9 hk9 hkset hkp
                go_wp2_with (at_builtin; refine wpList_append_lies _ rfl _ _ 42 rfl (q + 1) 3 i0 _ 1 8 Tryz.underlying42 hi0 hz0 hz1 hz2 rfl (by decide) _ row1.length _ rfl H9.out ⟨wr.heap.size, 0, none⟩ 1 1 [.int .i64 (j : Int)] rfl rfl HNw.out (fun u hu => (by simp only [List.mem_cons, List.mem_nil_iff, or_false] at hu; subst hu; rfl)) (by decide) (by unfold maxLen; omega) (by omega) (by rw [World.size_alloc]; omega) _ rfl ?_)
                intro g' cap w5 hown5 hg5 hat5 hlt5
                have row5 := RowK.append (x := j) (r := [.int .i64 (j : Int)]) (fun k hh => hh.elim) hrows HRp.out ⟨rfl, by unfold maxLen; omega⟩ (fun _ _ hh => hh) hg5 hown5
                rw [HR1.out] at row5
                have ha5 := HA9.out.grown hg5 fun e => by have := hoth q e; omega
                have hb5 := hb9.grown hg5 (by have := hbel.size; rw [World.size_alloc, size_setCell']; omega) fun b hb => by have := hoth b hb; omega
                have hk5 := HK9.out.grown hg5 HOwn.out
                have hz5 := hg5.size
                rw [World.size_alloc, size_setCell'] at hz5
                have HO5 := Lib.hid (show ∀ b, (Value.slice (some ⟨g', 0, none⟩) (row1.length + 1) cap).ownBlock = some b → b < g4 ∨ w4.heap.size ≤ b from fun b hb => by
                  obtain rfl : g' = b := by simpa [Value.ownBlock] using hb
                  rcases hat5 with h1 | h1
                  · exact HOwn.out _ h1
                  · exact .inr (by omega))
                have HR5 := Lib.hid row5
                have HA5 := Lib.hid ha5
                have HK5 := Lib.hid hk5
                clear row5 ha5 hk5 hown5 hg5 hat5 H9 HRp HNw HA9 HK9 hb9 hb2 cj cj2 cs
                go_wp2
                go_roundw
                case rel => exact ⟨t + 1, s.set j true, ex ++ [j], by omega, by go_num, HR5.out, HA5.out, HB2.out, HC2.out, HO5.out, HK5.out, by omega, hb5⟩
                case measure => simp [intOf]; omega
              · have HC2 := Lib.hid (show ∀ y ∈ (needAt (needsS l) x).take (t + 1), y ∈ row0 ++ ex from fun y hy => by
                  rw [HTk.out] at hy
                  rcases List.mem_append.1 hy with h | h
                  · exact HCl2.out y h
                  · obtain rfl : y = j := by simpa using h
                    exact (HBf.out.mem y).1 hsv)
                have HR2 := Lib.hid hrow
                have HA2 := Lib.hid ha
                have HK2 := Lib.hid hkp
                clear hsv hrow ha hkp hj hjx hrow0 hmost
                go_wp2
                go_roundw
                case rel => exact ⟨t + 1, s, ex, by omega, by go_num, HR2.out, HA2.out, HBf.out, HC2.out, HOwn.out, HK2.out, hz, hbel⟩
                case measure => simp [intOf]; omega
            · have HC3 := Lib.hid (show ∀ (i y : Nat), i < a + 1 → (row ++ ex)[i]? = some y → ∀ z ∈ needAt (needsS l) y, z ∈ row ++ ex from fun i y hi hy z hz => by
                rw [List.getElem?_append_left (by omega)] at hy
                rcases Nat.lt_or_ge i a with h | h
                · exact List.mem_append.2 (.inl (HCl.out i y h hy z hz))
                · have hia : i = a := by omega
                  rw [hia, HX.out] at hy
                  obtain rfl := Option.some.inj hy
                  have h2 := HCl2.out
                  rw [List.take_of_length_le (by rw [HL8.out]; omega)] at h2
                  exact h2 z hz)
              have HIn3 := Lib.hid (show ∀ y ∈ ks, y ∈ row ++ ex from fun y hy => List.mem_append.2 (.inl (HIn.out y hy)))
              have hlen3 : a + 1 ≤ (row ++ ex).length := by rw [List.length_append]; omega
              have HR2 := Lib.hid hrow
              have HA2 := Lib.hid ha
              have HK2 := Lib.hid hkp
              clear hrow ha hkp hmost
              go_wp2
              go_roundw
              case rel => exact ⟨a + 1, s, row ++ ex, hlen3, by go_num, HR2.out, HA2.out, HBf.out, HIn3.out, HC3.out, HOwn.out, HK2.out, hz, hbel⟩
              case measure => simp [intOf]; omega
        · have hC := HBf.out.done HIn.out fun i hi y hy => by
            obtain ⟨p, hp⟩ := List.getElem?_of_mem hi
            exact HCl.out p i (by have := (List.getElem?_eq_some_iff.1 hp).1; omega) hp y hy
          have HC := Lib.hid hC; clear hC
          have hsN : s.length = n := HSL.out
          have hin2 : Sl wr (Lt wr.heap.size) (some ⟨q, 0, none⟩) n s := by
            have := ha.sl (α := Bool) (l := s) rfl (by simp) (by rw [hsN]; unfold maxLen; omega) fun _ x v hx hv => by
              rw [List.getElem?_map, hx] at hv
              cases hv; rfl
            rwa [hsN] at this
          have hnd2 : Sl wr (Lt wr.heap.size) (some ⟨g4, 0, none⟩) n (needsS l) := (hnd.keep fun b hb => hkp.2 b hb.1 hb.2).more fun b hb => Nat.lt_of_lt_of_le hb.2 hkp.1
          clear hsN ha hrow
          go_wp2_with fail
          refine (ref6_ordered _ _ n n n (needsS l) s wr hnd2 hin2 (needs_within l) (by omega)).mono ?_
          rintro e w5 ⟨v5, rfl, hrow5, hb5⟩
          have hb05 := fr_call hbel hb5
          have HE := Lib.hid (PlanPost.good (w := w) (HPE.out.trans (clos_ok (by have := HB.out; omega) HI.out)) ⟨ks, s, HI.out, HC.out, rfl⟩ (hrow5.weaken (by have := hbel.size; omega)) hb05)
          clear hrow5 hin2 hnd2 hb5
          go_wp2
          go_ret2
          exact HE.out
end Go.Proofs.Sm

namespace Go.Proofs.Sm
open Go.RowKit

theorem plan_lt {l : List RuleV} {ws : List ByteArray} {out : List Nat} (h : PlanIs l ws out) : (∀ i ∈ out, i < l.length) ∧ out.length ≤ l.length := by
  obtain ⟨ks, s, _, _, rfl⟩ := h
  have hd := orderS_done (needsS l) (isOf s)
  refine ⟨fun i hi => by have := hd.lt i hi; rwa [needsS_length] at this, ?_⟩
  have h1 := hd.most
  have h2 := many_le (needsS l) (isOf s)
  rw [needsS_length] at h2
  omega
theorem flat_str {w : World} {S S' : Nat → Prop} {x : ByteArray} {vs : List Value} (h : Rep.rep w S x vs) : Rep.rep w S' x vs := h
def namesAt (l : List RuleV) (out : List Nat) : List ByteArray := out.map (nameAt l)
theorem namesAt_more {l : List RuleV} {out : List Nat} {k i : Nat} {x : RuleV} (h : out[k]? = some i) (hx : l[i]? = some x) : namesAt l (out.take (k + 1)) = namesAt l (out.take k) ++ [x.name] := by
  rw [namesAt, List.take_add_one, h, List.map_append, ← nameAt_some hx]; rfl
def OrderPost (l : List RuleV) (ws : List ByteArray) (w : World) (e : Ending) (w' : World) : Prop :=
  ∃ v, e = .returned (.tuple #[v, .int .i64 (planErr l ws)]) ∧ (planErr l ws ≠ 0 → v = .slice none 0 0) ∧ (planErr l ws = 0 → ∃ out, PlanIs l ws out ∧ RowK w' w.heap.size 9 (fun _ => False) v (namesAt l out)) ∧ Below w.heap.size w w'
theorem OrderPost.bad {l : List RuleV} {ws : List ByteArray} {w w' : World} {f : Int} (hf : planErr l ws = f) (h0 : f ≠ 0) (hb : Below w.heap.size w w') : OrderPost l ws w (.returned (.tuple #[.slice none 0 0, .int .i64 f])) w' :=
  ⟨_, by rw [hf], fun _ => rfl, fun h => absurd (hf.symm.trans h) h0, hb⟩
theorem OrderPost.good {l : List RuleV} {ws : List ByteArray} {w w' : World} {v : Value} {out : List Nat} (hf : planErr l ws = 0) (hp : PlanIs l ws out) (hr : RowK w' w.heap.size 9 (fun _ => False) v (namesAt l out)) (hb : Below w.heap.size w w') : OrderPost l ws w (.returned (.tuple #[v, .int .i64 0])) w' :=
  ⟨_, by rw [hf], fun h => absurd hf h, fun _ => ⟨out, hp, hr⟩, hb⟩
set_option maxHeartbeats 2000000 in
set_option maxRecDepth 100000 in
theorem ref6_Order (A B : Option Addr) (n c m d : Nat) (l : List RuleV) (ws : List ByteArray) (w : World) (hE : Env w) (hsl : Sl w (Lt w.heap.size) A n l) (hws : Sl w (Lt w.heap.size) B m ws) :
    Calls Tryz.prog 18 #[.slice A n c, .slice B m d] w (OrderPost l ws w) := by
  obtain ⟨i0, hi0, hz0, hz1, hz2⟩ := info_parts strs6_info
  have HL := Lib.hid hsl.1
  go_enter Tryz.func18, Tryz.ntmps18
  go_wp2_with fail
  refine (ref6_plan A B n c m d l ws w hE hsl hws).mono ?_
  rintro e w1 ⟨v, rfl, hbad, hgood, hbw⟩
  by_cases h0 : planErr l ws = 0
  · obtain ⟨out, hpl, hrow⟩ := hgood h0
    have HZ := Lib.hid h0
    have hl5 : l.length ≤ 500 := by
      have h1 : checkRulesS l = 0 := by
        rcases Classical.em (checkRulesS l = 0) with h | h
        · exact h
        · rw [planErr_bad h] at h0; exact absurd h0 h
      exact (rules_sorted h1).2
    rw [h0]
    clear h0 hbad hgood
    obtain ⟨A7, c7, rfl, h71, h72, hs7⟩ := hrow.sl
    have hplt := (plan_lt hpl).1
    have hple := (plan_lt hpl).2
    have HPl := Lib.hid hpl
    have HLt := Lib.hid hplt
    have hN5 : out.length ≤ 500 := by omega
    have hmN : out.length ≤ 9223372036854775807 := by omega
    have HWF := Lib.hid hbw
    have hwz := hbw.size
    clear hrow hpl hplt hbw
    go_wp2
    go_loopw [8, 9] (fun v iv wx => ∃ k : Nat, k ≤ out.length ∧ iv = .int .i64 k ∧ RowK wx w1.heap.size 9 (fun _ => False) v (namesAt l (out.take k)) ∧ Below w1.heap.size w1 wx) (fun _ iv _ => out.length - (intOf iv).toNat)
    case atStart => exact ⟨0, Nat.zero_le _, rfl, RowK.nil, Below.refl _ _⟩
    case round =>
      obtain ⟨k, hk, rfl, hrow, hbel⟩ := hrel
      by_cases hlt : k < out.length
      · have hkI : (k : Int) < (out.length : Int) := by omega
        obtain ⟨b7, o7, i, rfl, _, hi, him, ci⟩ := (hs7.keep (keep_lt hbel)).nat hlt
        have hin : i < n := by have := HLt.out i (List.mem_of_getElem? hi); have := HL.out; omega
        have hiI : (i : Int) < (n : Int) := by omega
        obtain ⟨b4, o4, x, rfl, _, hx, hxs, cx⟩ := ((sl_call hsl HWF.out (Nat.le_refl _)).keep (keep_lt hbel)).ruleName hin
        have HN := Lib.hid (namesAt_more hi hx)
        clear hi hx
        have hlen : (namesAt l (out.take k)).length = k := by rw [namesAt, List.length_map, List.length_take]; omega
        have hW9 : Below wr.heap.size wr (wr.alloc (.cells #[.string x.name] 9)) := fr_alloc (fr_refl wr) _
        obtain ⟨_, rows, hrows, hown9, hrep⟩ := hrow.call hW9
        have hoth : ∀ b, Value.ownBlock u8 = some b → w1.heap.size ≤ b := fun b hb => (hrow.kind b hb).1
        rw [hlen] at hown9 hrows
        have H9 := Lib.hid hown9
        have HRp := Lib.hid hrep
        have hb9 := hbel.trans (hW9.mono hbel.size)
        have hz1r := hbel.size
        clear hrow hown9 hrep
        go_wp2_with (at_builtin; refine wpList_append_lies _ rfl _ _ 23 rfl w1.heap.size 9 i0 _ 1 16 Tryz.underlying23 hi0 hz0 hz1 hz2 rfl (by decide) _ k _ rfl H9.out ⟨wr.heap.size, 0, none⟩ 1 1 [.string x.name] rfl rfl (new_cells wr #[_] _) (fun u hu => (by simp only [List.mem_cons, List.mem_nil_iff, or_false] at hu; subst hu; rfl)) (by decide) (by unfold maxLen; omega) (by omega) (by rw [World.size_alloc]; omega) _ rfl ?_)
        intro g' cap w5 hown5 hg5 hat5 hlt5
        have row5 := RowK.append (x := x.name) (r := [.string x.name]) (l := namesAt l (out.take k)) (fun k hh => hh.elim) (by rw [hrows, hlen]) HRp.out ⟨rfl, hxs⟩ (fun _ _ hh => hh) hg5 (by rw [hlen]; exact hown5)
        rw [← HN.out] at row5
        have hb5 := hb9.grown hg5 (by rw [World.size_alloc]; omega) fun b hb => hoth b hb
        have HR5 := Lib.hid row5
        clear row5 hown5 hg5 hat5 H9 HRp hb9 hW9 hlen hrows
        go_wp2
        go_roundw
        case rel => exact ⟨k + 1, by omega, by go_num, HR5.out, hb5⟩
        case measure => simp [intOf]; omega
      · rw [List.take_of_length_le (by omega)] at hrow
        have HE := Lib.hid (OrderPost.good (w := w) HZ.out HPl.out (hrow.weaken hwz) (HWF.out.trans (hbel.mono hwz)))
        clear hrow
        go_wp2
        go_ret2
        exact HE.out
  · have hne : (planErr l ws == 0) = false := by rw [beq_eq_false_iff_ne]; exact h0
    have HN := Lib.hid h0
    obtain rfl := hbad h0
    clear h0 hbad hgood
    go_wp2
    go_ret2
    exact OrderPost.bad rfl HN.out hbw
end Go.Proofs.Sm

namespace Go.Proofs.Sm
open Go.RowKit

set_option maxHeartbeats 2000000 in
set_option maxRecDepth 100000 in
theorem steps_Order (A B : Option Addr) (n c m d : Nat) (l : List RuleV) (ws : List ByteArray) (w : World) (hE : Env w) (hsl : Sl w (Lt w.heap.size) A n l) (hws : Sl w (Lt w.heap.size) B m ws) :
    Calls Tryz.prog 7 #[.slice A n c, .slice B m d] w (OrderPost l ws w) := by
  obtain ⟨i0, hi0, hz0, hz1, hz2⟩ := info_parts strs6_info
  have HL := Lib.hid hsl.1
  go_enter Tryz.func7, Tryz.ntmps7
  go_wp2_with fail
  refine (steps_open A n c l w hE hsl).mono ?_
  rintro e w0 ⟨vp, rfl, hbad0, hgood0, hb0⟩
  by_cases hr0 : checkRulesS l = 0
  · obtain ⟨g, rfl, hpl0⟩ := hgood0 hr0
    have hl5 := (rules_sorted hr0).2
    have HPE := Lib.hid (planErr_clos (ws := ws) hr0)
    have HC := Lib.hid (steps_closure _ g A B n c m d l ws w0 hpl0 (sl_call hsl hb0 (Nat.le_refl _)) hr0 (sl_call hws hb0 (Nat.le_refl _)))
    rw [hr0]
    clear hr0 hbad0 hgood0 hpl0
    go_wp2_with fail
    refine HC.out.mono ?_
    rintro e w1 ⟨v, rfl, hbad, hgood, hb1⟩
    have hbw := fr_call hb0 hb1
    by_cases h0 : closErr l ws = 0
    · obtain ⟨out, hpl, hrow⟩ := hgood h0
      have HZ := Lib.hid (HPE.out.trans h0)
      rw [h0]
      clear h0 hbad hgood hb0 hb1
      obtain ⟨A7, c7, rfl, h71, h72, hs7⟩ := hrow.sl
      have hplt := (plan_lt hpl).1
      have hple := (plan_lt hpl).2
      have HPl := Lib.hid hpl
      have HLt := Lib.hid hplt
      have hN5 : out.length ≤ 500 := by omega
      have hmN : out.length ≤ 9223372036854775807 := by omega
      have HWF := Lib.hid hbw
      have hwz := hbw.size
      clear hrow hpl hplt hbw
      go_wp2
      go_loopw [9, 28] (fun v iv wx => ∃ k : Nat, k ≤ out.length ∧ iv = .int .i64 k ∧ RowK wx w1.heap.size 9 (fun _ => False) v (namesAt l (out.take k)) ∧ Below w1.heap.size w1 wx) (fun _ iv _ => out.length - (intOf iv).toNat)
      case atStart => exact ⟨0, Nat.zero_le _, rfl, RowK.nil, Below.refl _ _⟩
      case round =>
        obtain ⟨k, hk, rfl, hrow, hbel⟩ := hrel
        by_cases hlt : k < out.length
        · have hkI : (k : Int) < (out.length : Int) := by omega
          obtain ⟨b7, o7, i, rfl, _, hi, him, ci⟩ := (hs7.keep (keep_lt hbel)).nat hlt
          have hin : i < n := by have := HLt.out i (List.mem_of_getElem? hi); have := HL.out; omega
          have hiI : (i : Int) < (n : Int) := by omega
          obtain ⟨b4, o4, x, rfl, _, hx, hxs, cx⟩ := ((sl_call hsl HWF.out (Nat.le_refl _)).keep (keep_lt hbel)).ruleName hin
          have HN := Lib.hid (namesAt_more hi hx)
          clear hi hx
          have hlen : (namesAt l (out.take k)).length = k := by rw [namesAt, List.length_map, List.length_take]; omega
          have hW9 : Below wr.heap.size wr (wr.alloc (.cells #[.string x.name] 9)) := fr_alloc (fr_refl wr) _
          obtain ⟨_, rows, hrows, hown9, hrep⟩ := hrow.call hW9
          have hoth : ∀ b, Value.ownBlock u9 = some b → w1.heap.size ≤ b := fun b hb => (hrow.kind b hb).1
          rw [hlen] at hown9 hrows
          have H9 := Lib.hid hown9
          have HRp := Lib.hid hrep
          have hb9 := hbel.trans (hW9.mono hbel.size)
          have hz1r := hbel.size
          clear hrow hown9 hrep
          go_wp2_with (at_builtin; refine wpList_append_lies _ rfl _ _ 23 rfl w1.heap.size 9 i0 _ 1 16 Tryz.underlying23 hi0 hz0 hz1 hz2 rfl (by decide) _ k _ rfl H9.out ⟨wr.heap.size, 0, none⟩ 1 1 [.string x.name] rfl rfl (new_cells wr #[_] _) (fun u hu => (by simp only [List.mem_cons, List.mem_nil_iff, or_false] at hu; subst hu; rfl)) (by decide) (by unfold maxLen; omega) (by omega) (by rw [World.size_alloc]; omega) _ rfl ?_)
          intro g' cap w5 hown5 hg5 hat5 hlt5
          have row5 := RowK.append (x := x.name) (r := [.string x.name]) (l := namesAt l (out.take k)) (fun k hh => hh.elim) (by rw [hrows, hlen]) HRp.out ⟨rfl, hxs⟩ (fun _ _ hh => hh) hg5 (by rw [hlen]; exact hown5)
          rw [← HN.out] at row5
          have hb5 := hb9.grown hg5 (by rw [World.size_alloc]; omega) fun b hb => hoth b hb
          have HR5 := Lib.hid row5
          clear row5 hown5 hg5 hat5 H9 HRp hb9 hW9 hlen hrows
          go_wp2
          go_roundw
          case rel => exact ⟨k + 1, by omega, by go_num, HR5.out, hb5⟩
          case measure => simp [intOf]; omega
        · rw [List.take_of_length_le (by omega)] at hrow
          have HE := Lib.hid (OrderPost.good (w := w) HZ.out HPl.out (hrow.weaken hwz) (HWF.out.trans (hbel.mono hwz)))
          clear hrow
          go_wp2
          go_ret2
          exact HE.out
    · have HN := Lib.hid h0
      have HV := HPE
      obtain rfl := hbad h0
      generalize closErr l ws = f at HN HV h0 ⊢
      clear h0 hbad hgood hb0 hb1 HPE
      go_wp2
      go_loop [9, 28] (fun v i => v = .slice none 0 0 ∧ i = .int .i64 0) (fun _ _ => 0)
      case atStart => exact ⟨rfl, rfl⟩
      case round =>
        obtain ⟨rfl, rfl⟩ := hrel
        go_wp2
        go_ret2
        exact OrderPost.bad HV.out HN.out hbw
  · have hne : (checkRulesS l == 0) = false := by rw [beq_eq_false_iff_ne]; exact hr0
    have HN := Lib.hid hr0
    have HV := Lib.hid (planErr_bad (ws := ws) hr0)
    obtain rfl := hbad0 hr0
    clear hr0 hbad0 hgood0
    go_wp2
    go_ret2
    exact OrderPost.bad HV.out HN.out hb0
end Go.Proofs.Sm

namespace Go.Proofs.Sm
open Go.RowKit

theorem bl_lt : ∀ {a b : List UInt8}, Op.bytesLess a b = true ↔ a < b
  | [], [] => by simp [Op.bytesLess]
  | [], _ :: _ => by simp [Op.bytesLess]
  | _ :: _, [] => by simp [Op.bytesLess]
  | a :: l, b :: m => by
    rw [List.cons_lt_cons_iff, ← bl_lt (a := l) (b := m)]
    simp [Op.bytesLess]
theorem lt_bytes {x y : ByteArray} : ltS x y = true ↔ x.data.toList < y.data.toList := by
  unfold ltS
  rw [Lib.toList_data, Lib.toList_data, bl_lt]
theorem bytes_eq {x y : ByteArray} (h : x.data.toList = y.data.toList) : x = y := by
  obtain ⟨⟨x⟩⟩ := x
  obtain ⟨⟨y⟩⟩ := y
  simp at h
  subst h; rfl
section
variable {f : List UInt8 → Option Value} {l : List ByteArray} {s : ByteArray} {k : Nat}
/-- as it was -/
theorem KeysAre.same {g : List UInt8 → Option Value} (h : KeysAre f l) (hx : l[k - 1]? = some s) (hg : ∀ key, (g key).isSome = true ↔ (f key).isSome = true ∨ key = s.data.toList) : KeysAre g l := by
  refine ⟨h.sorted, fun key => ?_, h.size⟩
  rw [hg, ← h.mem]
  constructor
  · exact fun h1 => .inl h1
  · rintro (h1 | rfl)
    · exact h1
    · exact List.mem_map.2 ⟨s, List.mem_of_getElem? hx, rfl⟩
theorem KeysAre.put {g : List UInt8 → Option Value} (h : KeysAre f l) (hs : s.size ≤ maxLen) (hkl : k ≤ l.length) (hhi : ∀ (i : Nat) (x : ByteArray), k ≤ i → l[i]? = some x → s.data.toList < x.data.toList)
    (hlo : ∀ x, 0 < k → l[k - 1]? = some x → x.data.toList < s.data.toList) (hg : ∀ key, (g key).isSome = true ↔ (f key).isSome = true ∨ key = s.data.toList) : KeysAre g (l.take k ++ ([s] ++ l.drop k)) := by
  have hso := h.sorted
  have htk : ∀ x ∈ l.take k, x.data.toList < s.data.toList := by
    intro x hx
    obtain ⟨i, hi⟩ := List.getElem?_of_mem hx
    rw [List.getElem?_take] at hi
    split at hi
    · rename_i hik
      obtain ⟨y, hy⟩ := at_lt (l := l) (k := k - 1) (by omega)
      have h1 := hlo y (by omega) hy
      by_cases he : i = k - 1
      · rw [he, hy] at hi
        rw [← Option.some.inj hi]; exact h1
      · have h2 := List.pairwise_iff_getElem.1 hso i (k - 1) (List.getElem?_eq_some_iff.1 hi).1 (by omega) (by omega)
        rw [(List.getElem?_eq_some_iff.1 hi).2, (List.getElem?_eq_some_iff.1 hy).2] at h2
        exact List.lt_trans h2 h1
    · cases hi
  have hdk : ∀ x ∈ l.drop k, s.data.toList < x.data.toList := by
    intro x hx
    obtain ⟨i, hi⟩ := List.getElem?_of_mem hx
    rw [List.getElem?_drop] at hi
    exact hhi (k + i) x (by omega) hi
  have hsp : (l.take k ++ l.drop k).Pairwise fun x y => x.data.toList < y.data.toList := by rw [List.take_append_drop]; exact hso
  rw [List.pairwise_append] at hsp
  refine ⟨?_, fun key => ?_, fun x hx => ?_⟩
  · rw [List.pairwise_append]
    refine ⟨hsp.1, ?_, fun x hx y hy => ?_⟩
    · rw [List.singleton_append, List.pairwise_cons]
      exact ⟨hdk, hsp.2.1⟩
    · rcases List.mem_append.1 hy with h1 | h1
      · obtain rfl : y = s := by simpa using h1
        exact htk x hx
      · exact hsp.2.2 x hx y h1
  · rw [hg, ← h.mem, List.map_append, List.map_append, List.mem_append, List.mem_append]
    have hm : key ∈ l.map (·.data.toList) ↔ key ∈ (l.take k).map (·.data.toList) ∨ key ∈ (l.drop k).map (·.data.toList) := by
      rw [← List.mem_append, ← List.map_append, List.take_append_drop]
    rw [hm]
    simp only [List.map_cons, List.map_nil, List.mem_singleton]
    constructor
    · rintro (h1 | h1 | h1)
      · exact .inl (.inl h1)
      · exact .inr h1
      · exact .inl (.inr h1)
    · rintro ((h1 | h1) | h1)
      · exact .inl h1
      · exact .inr (.inr h1)
      · exact .inr (.inl h1)
  · rcases List.mem_append.1 hx with h1 | h1
    · exact h.size x (List.mem_of_mem_take h1)
    · rcases List.mem_append.1 h1 with h1 | h1
      · obtain rfl : x = s := by simpa using h1
        exact hs
      · exact h.size x (List.mem_of_mem_drop h1)
end
end Go.Proofs.Sm

namespace Go.Proofs.Sm
open Go.RowKit

theorem Sl.take {α : Type} [Rep α] {w : World} {S : Nat → Prop} {A : Option Addr} {n k : Nat} {l : List α} (h : Sl w S A n l) (hk : k ≤ n) : Sl w S A k (l.take k) := by
  refine ⟨by rw [List.length_take, h.1]; omega, Nat.le_trans hk h.2.1, fun h0 => ?_⟩
  obtain ⟨b, o, e, hb, hc⟩ := h.2.2 (by omega)
  refine ⟨b, o, e, hb, fun i x hx => hc i x ?_⟩
  rw [List.getElem?_take] at hx
  split at hx
  · exact hx
  · cases hx
theorem Sl.dropStr {w : World} {S : Nat → Prop} {b o n k : Nat} {l : List ByteArray} (h : Sl w S (some ⟨b, o, none⟩) n l) (hk : k ≤ n) : Sl w S (some ⟨b, o + k, none⟩) (n - k) (l.drop k) := by
  refine ⟨by rw [List.length_drop, h.1], Nat.le_trans (Nat.sub_le _ _) h.2.1, fun h0 => ?_⟩
  obtain ⟨b', o', e, hb, hc⟩ := h.2.2 (by omega)
  cases e
  refine ⟨b, o + k, rfl, hb, fun i x hx => ?_⟩
  rw [List.getElem?_drop] at hx
  obtain ⟨vs, h1, h2⟩ := hc (k + i) x hx
  refine ⟨vs, h1, ?_⟩
  simp only [Rep.sz, Nat.mul_one] at h2 ⊢
  rw [Nat.add_assoc]
  exact h2
/-- l[:k] and l[k:] -/
theorem cut_runs {w : World} {B k : Nat} {K : Nat → Prop} {v : Value} {l : List ByteArray} (h : RowK w B 9 K v l) (hk : k ≤ l.length) (hm : l.length ≤ 1000000) :
    ∃ A c A2 c2, v = .slice A l.length c ∧ l.length ≤ c ∧ c ≤ maxLen ∧ (∀ W, (Instr.slice 23 (.slice A l.length c) none (some (.int .i64 (k : Int))) none).run Tryz.prog W = .ok (.slice A k c) W) ∧
      (∀ W, (Instr.slice 23 (.slice A l.length c) (some (.int .i64 (k : Int))) none none).run Tryz.prog W = .ok (.slice A2 (l.length - k) c2) W) ∧
      Sl w (Lt w.heap.size) A k (l.take k) ∧ Sl w (Lt w.heap.size) A2 (l.length - k) (l.drop k) := by
  obtain ⟨A, c, hv, h1, h2, h3⟩ := h.sl
  obtain ⟨_, rows, _, hown, _⟩ := h
  have hmx : c ≤ 9223372036854775807 := h2
  rcases hown.2 with ⟨h4, h5⟩ | ⟨g, cap, cur, h4, _⟩
  · have hl := List.eq_nil_of_length_eq_zero h5
    subst hl
    obtain rfl : k = 0 := by simpa using hk
    rw [h4] at hv
    cases hv
    refine ⟨none, 0, none, 0, h4, Nat.le_refl _, h2, fun W => ?_, fun W => ?_, Sl.nil, Sl.nil⟩
    · simp [go_sem, Tryz.underlying23]
    · simp [go_sem, Tryz.underlying23]
  · rw [h4] at hv
    cases hv
    have hkc : (k : Int) ≤ (c : Int) := by omega
    have hkl : (k : Int) ≤ (l.length : Int) := by omega
    by_cases hc : c = k
    · subst hc
      have hkl2 : l.length = c := by omega
      refine ⟨some ⟨g, 0, none⟩, c, some ⟨g, 0, none⟩, 0, h4, h1, h2, fun W => ?_, fun W => ?_, h3.take hk, ?_⟩
      · simp [go_sem, Tryz.underlying23]
      · simp [go_sem, Tryz.underlying23, hkl2]
      · rw [List.drop_eq_nil_of_le (by omega), show l.length - c = 0 by omega]
        exact ⟨rfl, Nat.zero_le _, fun h => absurd h (by omega)⟩
    · have hck : ¬ k = c := fun e => hc e.symm
      refine ⟨some ⟨g, 0, none⟩, c, some ⟨g, 0 + k, none⟩, c - k, h4, h1, h2, fun W => ?_, fun W => ?_, h3.take hk, h3.dropStr hk⟩
      · simp [go_sem, Tryz.underlying23, hkc]
      · simp [go_sem, Tryz.underlying23, hkl, hc]
end Go.Proofs.Sm

namespace Go.Proofs.Sm
open Go.RowKit

theorem str_one {w : World} {S : Nat → Prop} {x : ByteArray} {r : List Value} (h : Rep.rep w S x r) : ∀ u ∈ r, u.oneCell' = true := by
  obtain ⟨rfl, _⟩ := h
  intro u hu
  simp only [List.mem_cons, List.not_mem_nil, or_false] at hu
  subst hu; rfl
/-- the cells of a row of strings, to be appended -/
theorem str_cells {w : World} {S : Nat → Prop} {A : Option Addr} {n : Nat} {l : List ByteArray} (h : Sl w S A n l) :
    ∃ rows : List (List Value), rows.length = l.length ∧ (∀ (i : Nat) (x : ByteArray) (r : List Value), l[i]? = some x → rows[i]? = some r → Rep.rep w (fun _ => False) x r) ∧ rows.flatten.length = n * 1 ∧
      (0 < n → ∃ ad, A = some ad ∧ ∀ j u, rows.flatten[j]? = some u → w.cell? (ad.add j) = some u) ∧ ∀ u ∈ rows.flatten, u.oneCell' = true := by
  obtain ⟨rows, y1, y2, y3, y4, y5⟩ := sl_cells h (by decide)
  refine ⟨rows, by rw [y1, h.1], fun i x r hx hr => flat_str (y2 i x r hx hr), y3, y4, fun u hu => ?_⟩
  obtain ⟨rr, hrr, hur⟩ := List.mem_flatten.1 hu
  obtain ⟨xx, _, hxx⟩ := y5 rr hrr
  exact str_one hxx u hur
def PutPost (g : List UInt8 → Option Value) (l : List ByteArray) (B : Nat) (w : World) (e : Ending) (w' : World) : Prop :=
  ∃ v' l', e = .returned v' ∧ RowK w' B 9 (fun _ => False) v' l' ∧ KeysAre g l' ∧ l'.length ≤ l.length + 1 ∧ Below w.heap.size w w'
set_option maxHeartbeats 4000000 in
set_option maxRecDepth 100000 in
theorem ref6_put (v : Value) (l : List ByteArray) (s : ByteArray) (B : Nat) (f g : List UInt8 → Option Value) (w : World) (h : RowK w B 9 (fun _ => False) v l) (hB : B ≤ w.heap.size) (hn : l.length ≤ 900000) (hs : s.size ≤ maxLen)
    (hka : KeysAre f l) (hg : ∀ key, (g key).isSome = true ↔ (f key).isSome = true ∨ key = s.data.toList) : Calls Tryz.prog 42 #[v, .string s] w (PutPost g l B w) := by
  obtain ⟨i0, hi0, hz0, hz1, hz2⟩ := info_parts strs6_info
  have HK := Lib.hid hka
  have HG := Lib.hid hg
  have hl1 := h.sl
  obtain ⟨A, c, rfl, hc1, hc2, hsl⟩ := hl1
  have hmn : l.length ≤ 9223372036854775807 := by omega
  clear hka hg
  go_enter Tryz.func42, Tryz.ntmps42
  go_wp2
  go_loop [5] (fun t => ∃ k : Nat, k ≤ l.length ∧ t = .int .i64 k ∧ ∀ (i : Nat) (x : ByteArray), k ≤ i → l[i]? = some x → s.data.toList < x.data.toList) (fun t => (intOf t).toNat)
  case atStart => exact ⟨l.length, Nat.le_refl _, rfl, fun i x hi hx => by have := (List.getElem?_eq_some_iff.1 hx).1; omega⟩
  case round =>
    obtain ⟨k, hk, rfl, hhi⟩ := hrel
    have HHi := Lib.hid hhi; clear hhi
    rcases Nat.eq_zero_or_pos k with h0 | h0
    · have hg0 : decide (0 < k) = false := by simp; omega
      have HLo := Lib.hid (show ∀ x, 0 < k → l[k - 1]? = some x → x.data.toList < s.data.toList from fun x h => absurd h (by omega))
      clear h0
      obtain ⟨A', c', A2, c2, hv, hc1, hc2, r1, r2, t1, t2⟩ := cut_runs h hk (by omega)
      cases hv
      obtain ⟨rows1, y1, y2, y3, y4, y5⟩ := str_cells t1
      have Y1 := Lib.hid y1
      have Y2 := Lib.hid y2
      have Y3 := Lib.hid y3
      have Y4 := Lib.hid y4
      have Y5 := Lib.hid y5
      clear y1 y2 y3 y4 y5 t1 h
      go_wp2_with (at_builtin; refine wpList_append_src rfl _ _ 23 rfl w.heap.size 9 i0 _ 1 16 Tryz.underlying23 hi0 hz0 hz1 hz2 rfl (by decide) _ 0 _ rfl (World.ownsRow_nil _ _ _ _) _ k _ rows1.flatten rfl Y3.out Y4.out Y5.out (by unfold maxLen; omega) (by omega) (Nat.le_refl _) ?_)
      intro v1 w1 hown1 hg1
      have row1 := RowK.appendAll (l := ([] : List ByteArray)) (rows := []) (l2 := l.take k) (K := fun _ => False) (rows2 := rows1) (w := w) (v := .slice none 0 0) (fun _ hh => hh.elim) rfl (fun i x r hx => by simp at hx) Y1.out Y2.out (fun _ _ hh => hh) hg1 (by rw [show (l.take k).length = k by rw [List.length_take]; omega]; simp only [List.length_nil, Nat.zero_add, List.flatten_nil, List.nil_append]; exact hown1)
      rw [List.nil_append] at row1
      have hb1 : Below w.heap.size w w1 := (Below.refl _ w).grown hg1 (Nat.le_refl _) fun b hb => by cases hb
      have hW9 : Below w1.heap.size w1 (w1.alloc (.cells #[.string s] 9)) := fr_alloc (fr_refl w1) _
      obtain ⟨_, rows, hrows, hown9, hrep⟩ := row1.call hW9
      have hlk : (l.take k).length = k := by rw [List.length_take]; omega
      rw [hlk] at hown9 hrows
      have hoth1 : ∀ b, Value.ownBlock v1 = some b → w.heap.size ≤ b := fun b hb => (row1.kind b hb).1
      have hb9 := fr_call hb1 hW9
      have H9 := Lib.hid hown9
      have HRp := Lib.hid hrep
      have hzw := hb1.size
      clear hown1 hg1 row1 hown9 hrep Y1 Y2 Y3 Y4 Y5
      go_wp2_with (at_builtin; refine wpList_append_lies _ rfl _ _ 23 rfl w.heap.size 9 i0 _ 1 16 Tryz.underlying23 hi0 hz0 hz1 hz2 rfl (by decide) _ k _ rfl H9.out ⟨w1.heap.size, 0, none⟩ 1 1 [.string s] rfl rfl (new_cells w1 #[_] _) (fun u hu => (by simp only [List.mem_cons, List.mem_nil_iff, or_false] at hu; subst hu; rfl)) (by decide) (by unfold maxLen; omega) (by omega) (by rw [World.size_alloc]; omega) _ rfl ?_)
      intro g' cap w2 hown2 hg2 hat2 hlt2
      have row2 := RowK.append (x := s) (r := [.string s]) (l := l.take k) (fun k hh => hh.elim) (by rw [hrows, hlk]) HRp.out ⟨rfl, hs⟩ (fun _ _ hh => hh) hg2 (by rw [hlk]; exact hown2)
      have hb2 := hb9.grown hg2 (by rw [World.size_alloc]; omega) fun b hb => hoth1 b hb
      have t2' := sl_call t2 hb2 (Nat.le_refl _)
      obtain ⟨rows3, y1, y2, y3, y4, y5⟩ := str_cells t2'
      have Y1 := Lib.hid y1
      have Y2 := Lib.hid y2
      have Y3 := Lib.hid y3
      have Y4 := Lib.hid y4
      have Y5 := Lib.hid y5
      obtain ⟨_, rowsB, hrowsB, hownB, hrepB⟩ := id row2
      have hlk2 : (l.take k ++ [s]).length = k + 1 := by rw [List.length_append, hlk]; rfl
      rw [hlk2] at hownB hrowsB
      have HB9 := Lib.hid hownB
      have HBp := Lib.hid hrepB
      have hoth2 : ∀ b, (Value.slice (some ⟨g', 0, none⟩) (k + 1) cap).ownBlock = some b → w.heap.size ≤ b := fun b hb => by
        exact (row2.kind b hb).1
      have hz2w := hb2.size
      clear y1 y2 y3 y4 y5 t2 t2' hown2 hg2 hat2 row2 hownB hrepB H9 HRp hW9 hb9 hb1
      go_wp2_with (at_builtin; refine wpList_append_src rfl _ _ 23 rfl w.heap.size 9 i0 _ 1 16 Tryz.underlying23 hi0 hz0 hz1 hz2 rfl (by decide) _ (k + 1) _ rfl HB9.out A2 (l.length - k) c2 rows3.flatten rfl Y3.out Y4.out Y5.out (by unfold maxLen; omega) (by omega) hz2w ?_)
      intro v3 w3 hown3 hg3
      have row3 := RowK.appendAll (l := l.take k ++ [s]) (rows := rowsB) (l2 := l.drop k) (K := fun _ => False) (rows2 := rows3) (w := w2) (v := .slice (some ⟨g', 0, none⟩) (k + 1) cap) (fun _ hh => hh.elim) (by rw [hrowsB, hlk2]) HBp.out Y1.out Y2.out (fun _ _ hh => hh) hg3 (by rw [hlk2, List.length_drop]; exact hown3)
      rw [List.append_assoc] at row3
      have hb3 := hb2.grown hg3 hb2.size fun b hb => hoth2 b hb
      have HE := Lib.hid (show PutPost g l B w (.returned v3) w3 from ⟨v3, _, rfl, row3.weaken hB, HK.out.put hs hk HHi.out HLo.out HG.out, by simp only [List.length_append, List.length_take, List.length_drop, List.length_singleton]; omega, hb3⟩)
      clear row3 hown3 hg3 HB9 HBp Y1 Y2 Y3 Y4 Y5 hb3 hb2
      go_wp2
      go_ret
      exact HE.out
    · obtain ⟨b, o, x, rfl, _, hx, hxs, cx⟩ := hsl.str (k := k - 1) (by omega)
      have HX := Lib.hid hx; clear hx
      have hg0 : decide (0 < k) = true := by simpa using h0
      have g1 : ((k : Int) - 1).toNat = k - 1 := by omega
      have g2 : (0 : Int) ≤ (k : Int) - 1 := by omega
      have g3 : (k : Int) - 1 < (l.length : Int) := by omega
      have hk1 : k ≤ l.length := hk
      have gx : (1 : Int) ≤ (k : Int) := by omega
      cases hb : Op.bytesLess s.toList x.toList
      · cases he : (x.toList == s.toList)
        · have HLo := Lib.hid (show ∀ y, 0 < k → l[k - 1]? = some y → y.data.toList < s.data.toList from fun y _ hy => by
            rw [HX.out] at hy
            obtain rfl := Option.some.inj hy
            refine lt_bytes.1 (bl_total hb fun e => ?_)
            rw [e] at he; simp at he)
          have hb1 : Op.bytesLess x.toList s.toList = true := bl_total hb fun e => by rw [e] at he; simp at he
          clear hb
          obtain ⟨A', c', A2, c2, hv, hc1, hc2, r1, r2, t1, t2⟩ := cut_runs h hk (by omega)
          cases hv
          obtain ⟨rows1, y1, y2, y3, y4, y5⟩ := str_cells t1
          have Y1 := Lib.hid y1
          have Y2 := Lib.hid y2
          have Y3 := Lib.hid y3
          have Y4 := Lib.hid y4
          have Y5 := Lib.hid y5
          clear y1 y2 y3 y4 y5 t1 h
          go_wp2_with (at_builtin; refine wpList_append_src rfl _ _ 23 rfl w.heap.size 9 i0 _ 1 16 Tryz.underlying23 hi0 hz0 hz1 hz2 rfl (by decide) _ 0 _ rfl (World.ownsRow_nil _ _ _ _) _ k _ rows1.flatten rfl Y3.out Y4.out Y5.out (by unfold maxLen; omega) (by omega) (Nat.le_refl _) ?_)
          intro v1 w1 hown1 hg1
          have row1 := RowK.appendAll (l := ([] : List ByteArray)) (rows := []) (l2 := l.take k) (K := fun _ => False) (rows2 := rows1) (w := w) (v := .slice none 0 0) (fun _ hh => hh.elim) rfl (fun i x r hx => by simp at hx) Y1.out Y2.out (fun _ _ hh => hh) hg1 (by rw [show (l.take k).length = k by rw [List.length_take]; omega]; simp only [List.length_nil, Nat.zero_add, List.flatten_nil, List.nil_append]; exact hown1)
          rw [List.nil_append] at row1
          have hb1 : Below w.heap.size w w1 := (Below.refl _ w).grown hg1 (Nat.le_refl _) fun b hb => by cases hb
          have hW9 : Below w1.heap.size w1 (w1.alloc (.cells #[.string s] 9)) := fr_alloc (fr_refl w1) _
          obtain ⟨_, rows, hrows, hown9, hrep⟩ := row1.call hW9
          have hlk : (l.take k).length = k := by rw [List.length_take]; omega
          rw [hlk] at hown9 hrows
          have hoth1 : ∀ b, Value.ownBlock v1 = some b → w.heap.size ≤ b := fun b hb => (row1.kind b hb).1
          have hb9 := fr_call hb1 hW9
          have H9 := Lib.hid hown9
          have HRp := Lib.hid hrep
          have hzw := hb1.size
          clear hown1 hg1 row1 hown9 hrep Y1 Y2 Y3 Y4 Y5
          go_wp2_with (at_builtin; refine wpList_append_lies _ rfl _ _ 23 rfl w.heap.size 9 i0 _ 1 16 Tryz.underlying23 hi0 hz0 hz1 hz2 rfl (by decide) _ k _ rfl H9.out ⟨w1.heap.size, 0, none⟩ 1 1 [.string s] rfl rfl (new_cells w1 #[_] _) (fun u hu => (by simp only [List.mem_cons, List.mem_nil_iff, or_false] at hu; subst hu; rfl)) (by decide) (by unfold maxLen; omega) (by omega) (by rw [World.size_alloc]; omega) _ rfl ?_)
          intro g' cap w2 hown2 hg2 hat2 hlt2
          have row2 := RowK.append (x := s) (r := [.string s]) (l := l.take k) (fun k hh => hh.elim) (by rw [hrows, hlk]) HRp.out ⟨rfl, hs⟩ (fun _ _ hh => hh) hg2 (by rw [hlk]; exact hown2)
          have hb2 := hb9.grown hg2 (by rw [World.size_alloc]; omega) fun b hb => hoth1 b hb
          have t2' := sl_call t2 hb2 (Nat.le_refl _)
          obtain ⟨rows3, y1, y2, y3, y4, y5⟩ := str_cells t2'
          have Y1 := Lib.hid y1
          have Y2 := Lib.hid y2
          have Y3 := Lib.hid y3
          have Y4 := Lib.hid y4
          have Y5 := Lib.hid y5
          obtain ⟨_, rowsB, hrowsB, hownB, hrepB⟩ := id row2
          have hlk2 : (l.take k ++ [s]).length = k + 1 := by rw [List.length_append, hlk]; rfl
          rw [hlk2] at hownB hrowsB
          have HB9 := Lib.hid hownB
          have HBp := Lib.hid hrepB
          have hoth2 : ∀ b, (Value.slice (some ⟨g', 0, none⟩) (k + 1) cap).ownBlock = some b → w.heap.size ≤ b := fun b hb => by
            exact (row2.kind b hb).1
          have hz2w := hb2.size
          clear y1 y2 y3 y4 y5 t2 t2' hown2 hg2 hat2 row2 hownB hrepB H9 HRp hW9 hb9 hb1
          go_wp2_with (at_builtin; refine wpList_append_src rfl _ _ 23 rfl w.heap.size 9 i0 _ 1 16 Tryz.underlying23 hi0 hz0 hz1 hz2 rfl (by decide) _ (k + 1) _ rfl HB9.out A2 (l.length - k) c2 rows3.flatten rfl Y3.out Y4.out Y5.out (by unfold maxLen; omega) (by omega) hz2w ?_)
          intro v3 w3 hown3 hg3
          have row3 := RowK.appendAll (l := l.take k ++ [s]) (rows := rowsB) (l2 := l.drop k) (K := fun _ => False) (rows2 := rows3) (w := w2) (v := .slice (some ⟨g', 0, none⟩) (k + 1) cap) (fun _ hh => hh.elim) (by rw [hrowsB, hlk2]) HBp.out Y1.out Y2.out (fun _ _ hh => hh) hg3 (by rw [hlk2, List.length_drop]; exact hown3)
          rw [List.append_assoc] at row3
          have hb3 := hb2.grown hg3 hb2.size fun b hb => hoth2 b hb
          have HE := Lib.hid (show PutPost g l B w (.returned v3) w3 from ⟨v3, _, rfl, row3.weaken hB, HK.out.put hs hk HHi.out HLo.out HG.out, by simp only [List.length_append, List.length_take, List.length_drop, List.length_singleton]; omega, hb3⟩)
          clear row3 hown3 hg3 HB9 HBp Y1 Y2 Y3 Y4 Y5 hb3 hb2
          go_wp2
          go_ret
          exact HE.out
        · have hb1 : Op.bytesLess x.toList s.toList = false := by
            have e : x.toList = s.toList := by simpa using he
            rw [e]; exact bl_irrefl _
          clear hb
          have HS := Lib.hid (show KeysAre g l from HK.out.same (s := s) (k := k) (by
            have e : x = s := bytes_eq (by rw [← Lib.toList_data, ← Lib.toList_data]; simpa using he)
            rw [← e]; exact HX.out) HG.out)
          have HP := Lib.hid (show PutPost g l B w (.returned (.slice (some ⟨b, o, none⟩) l.length c)) w from ⟨_, l, rfl, h, HS.out, by omega, Below.refl _ _⟩)
          clear h
          go_wp2
          go_ret
          exact HP.out
      · have HH := Lib.hid (show ∀ (i : Nat) (y : ByteArray), k - 1 ≤ i → l[i]? = some y → s.data.toList < y.data.toList from fun i y hi hy => by
          by_cases h1 : i = k - 1
          · subst h1
            rw [HX.out] at hy
            obtain rfl := Option.some.inj hy
            exact lt_bytes.1 hb
          · exact HHi.out i y (by omega) hy)
        have he : (x.toList == s.toList) = false := by
          cases he : (x.toList == s.toList)
          · rfl
          · have e : x.toList = s.toList := by simpa using he
            rw [e, bl_irrefl] at hb; cases hb
        have hb1 : Op.bytesLess x.toList s.toList = false := by
          cases h1 : Op.bytesLess x.toList s.toList
          · rfl
          · have := bl_trans hb h1
            rw [bl_irrefl] at this; cases this
        clear hb
        have gc : ((k : Int) - 1) = ((k - 1 : Nat) : Int) := by omega
        have GC := Lib.hid gc
        clear gc h
        go_wp2
        go_round
        case rel => exact ⟨k - 1, by omega, by rw [GC.out], HH.out⟩
        case measure => simp [intOf]; omega
end Go.Proofs.Sm
