/- Walks: the program's look at a path. -/
import Derived.Test.YtnhcaelapadhaaaGreatDoorW13
import Derived.Test.YtnhcaelapadhaaaGreatDoorBase2
namespace Go.Proofs.Sm
open Go.RowKit

/-- three-way comparison -/
theorem cmp_lt : ∀ a b : List UInt8, (Lib.compareBytes a b < 0) ↔ Op.bytesLess a b = true
  | [], [] => by simp [Lib.compareBytes, Op.bytesLess]
  | [], _ :: _ => by simp [Lib.compareBytes, Op.bytesLess]
  | _ :: _, [] => by simp [Lib.compareBytes, Op.bytesLess]
  | x :: a, y :: b => by
    have ih := cmp_lt a b
    simp only [Lib.compareBytes, Op.bytesLess]
    split
    · simp_all
    · split
      · rename_i h1 h2
        have : ¬ x = y := fun e => by subst e; exact h1 h2
        simp_all
      · rename_i h1 h2
        have : x = y := by
          apply UInt8.toNat_inj.1
          have h1' : ¬ x.toNat < y.toNat := fun h => h1 (UInt8.lt_iff_toNat_lt.2 h)
          have h2' : ¬ y.toNat < x.toNat := fun h => h2 (UInt8.lt_iff_toNat_lt.2 h)
          omega
        subst this
        simp_all
theorem cmp_eq : ∀ a b : List UInt8, (Lib.compareBytes a b = 0) ↔ a = b
  | [], [] => by simp [Lib.compareBytes]
  | [], _ :: _ => by simp [Lib.compareBytes]
  | _ :: _, [] => by simp [Lib.compareBytes]
  | x :: a, y :: b => by
    have ih := cmp_eq a b
    simp only [Lib.compareBytes]
    split
    · rename_i h1
      have : ¬ x = y := fun e => by subst e; exact UInt8.lt_irrefl _ h1
      simp_all
    · split
      · rename_i h1 h2
        have : ¬ x = y := fun e => by subst e; exact h1 h2
        simp_all
      · rename_i h1 h2
        have : x = y := by
          apply UInt8.toNat_inj.1
          have h1' : ¬ x.toNat < y.toNat := fun h => h1 (UInt8.lt_iff_toNat_lt.2 h)
          have h2' : ¬ y.toNat < x.toNat := fun h => h2 (UInt8.lt_iff_toNat_lt.2 h)
          omega
        subst this
        simp_all
/-- the closure that lookAt hands over -/
theorem act_lookAt1 (A' : Option Addr) (n' c' : Nat) (x p : ByteArray) (r : Bool) (w : World) :
    Calls Tryz.prog 90 #[.agg #[.string x, .bool r, .slice A' n' c'], .string p] w fun e w' => e = .returned (.int .i64 (Lib.compareBytes x.data.toList p.data.toList)) ∧ Below w.heap.size w w' := by
  go_enter Tryz.func90, Tryz.ntmps90
  go_wp2_with (go_at_call 91; refine (Tryz.strings_Compare _ _ _).mono ?_; rintro e w1 ⟨rfl, rfl⟩)
  go_ret
  exact ⟨rfl, fr_alloc (fr_refl w) _⟩

set_option maxRecDepth 100000 in
theorem bsearch_file (A : Option Addr) (n c : Nat) (l : List FileV) (p : ByteArray) (w : World) (hsl : Sl w (Lt w.heap.size) A n l) (hso : Sorted l) (hn : n ≤ 1000) :
    Calls Tryz.prog 89 #[.slice A n c, .string p, .func (.func 90) #[] #[]] w fun e w' =>
      ∃ (k : Nat) (b : Bool), e = .returned (.tuple #[.int .i64 k, .bool b]) ∧ ((b = false ∧ l.find? (eqp p) = none) ∨ (b = true ∧ ∃ x, l[k]? = some x ∧ l.find? (eqp p) = some x)) ∧ Below w.heap.size w w' := by
  go_enter Tryz.func89, Tryz.ntmps89
  go_wp2
  go_loopw [9, 10, 11] (fun i j _ wr => ∃ lo hi : Nat, i = .int .i64 lo ∧ j = .int .i64 hi ∧ lo ≤ hi ∧ hi ≤ n ∧ Halves l p lo hi ∧ Below w.heap.size w wr) (fun i j _ _ => (intOf j - intOf i).toNat)
  case atStart => exact ⟨0, n, rfl, rfl, Nat.zero_le _, Nat.le_refl _, by have := Halves.start l p; rwa [hsl.1] at this, Below.refl _ _⟩
  case round =>
    obtain ⟨lo, hi, rfl, rfl, h1, h2, hh, hbel⟩ := hrel
    have hsr := (hsl.keep (keep_lt hbel)).more (lt_mono hbel.size)
    by_cases hlt : lo < hi
    · obtain ⟨m, hm⟩ : ∃ m : Nat, (lo + hi) / 2 = m := ⟨_, rfl⟩
      have hm1 : lo ≤ m := by omega
      have hm2 : m < hi := by omega
      have hq : ((lo : Int) + (hi : Int)) / 2 = (m : Int) := by omega
      have Hm := Lib.hid hm; clear hm
      obtain ⟨b, o, x, A', n', c', rfl, hb, hx, hs1, hnc, hcm, hsl', c0, c1, c2⟩ := hsr.file (k := m) (by omega)
      have HX := Lib.hid hx; clear hx
      have hcl := cmp_lt x.path.data.toList p.data.toList
      have HC := Lib.hid (fun W => act_lookAt1 A' n' c' x.path p x.run W)
      generalize Lib.compareBytes x.path.data.toList p.data.toList = cb at hcl HC
      rw [← Lib.toList_data, ← Lib.toList_data] at hcl
      cases hle : ltS x.path p
      · have HH := Lib.hid (hh.down hso hm1 hm2 HX.out hle)
        have hcb : 0 ≤ cb := by
          have : ¬ cb < 0 := fun h => by have := hcl.1 h; rw [show Op.bytesLess x.path.toList p.toList = false from hle] at this; cases this
          omega
        clear hcl
        go_wp2_with (go_at_call 90; refine (HC.out _).mono ?_; rintro e w1 ⟨rfl, hb1⟩)
        go_round
        case rel => exact ⟨lo, m, rfl, rfl, hm1, by omega, HH.out, fr_call hbel hb1⟩
        case measure => simp [intOf]; omega
      · have HH := Lib.hid (hh.up hso hm1 hm2 HX.out hle)
        have hcb : cb < 0 := hcl.2 hle
        clear hcl
        go_wp2_with (go_at_call 90; refine (HC.out _).mono ?_; rintro e w1 ⟨rfl, hb1⟩)
        go_round
        case rel => exact ⟨m + 1, hi, by go_num, rfl, by omega, h2, HH.out, fr_call hbel hb1⟩
        case measure => simp [intOf]; omega
    · obtain rfl : lo = hi := by omega
      by_cases hend : lo < n
      · obtain ⟨b, o, x, A', n', c', rfl, hb, hx, hs1, hnc, hcm, hsl', c0, c1, c2⟩ := hsr.file (k := lo) hend
        have HX := Lib.hid hx; clear hx
        have hce := cmp_eq x.path.data.toList p.data.toList
        have HC := Lib.hid (fun W => act_lookAt1 A' n' c' x.path p x.run W)
        generalize Lib.compareBytes x.path.data.toList p.data.toList = cb at hce HC
        rw [← Lib.toList_data, ← Lib.toList_data] at hce
        have hg : decide ((lo : Int) < (n : Int)) = true := by simp; omega
        cases heq : (x.path.toList == p.toList)
        · have HM := Lib.hid (hh.none hso (fun y hy => by rw [HX.out] at hy; cases hy; exact heq))
          have hcb : (cb == 0) = false := by
            rw [beq_eq_false_iff_ne] at heq ⊢
            exact fun h => heq (hce.1 h)
          clear hce
          go_wp2_with (go_at_call 90; refine (HC.out _).mono ?_; rintro e w1 ⟨rfl, hb1⟩)
          go_ret2
          exact ⟨lo, false, rfl, .inl ⟨rfl, HM.out⟩, fr_call hbel hb1⟩
        · have HM := Lib.hid (find_sorted hso HX.out heq)
          have hcb : (cb == 0) = true := by
            rw [beq_iff_eq] at heq ⊢
            exact hce.2 heq
          clear hce
          go_wp2_with (go_at_call 90; refine (HC.out _).mono ?_; rintro e w1 ⟨rfl, hb1⟩)
          go_ret2
          exact ⟨lo, true, rfl, .inr ⟨rfl, x, HX.out, HM.out⟩, fr_call hbel hb1⟩
      · have HM := Lib.hid (hh.none hso (fun y hy => by have := (List.getElem?_eq_some_iff.1 hy).1; rw [hsl.1] at this; omega))
        have hg : decide ((lo : Int) < (n : Int)) = false := by simp; omega
        go_wp2
        go_ret2
        exact ⟨lo, false, rfl, .inl ⟨rfl, HM.out⟩, hbel⟩

set_option maxHeartbeats 2000000 in
set_option maxRecDepth 100000 in
theorem act_lookAt (A : Option Addr) (n c : Nat) (l : List FileV) (p : ByteArray) (w : World) (hsl : Sl w (Lt w.heap.size) A n l) (hso : Sorted l) (hn : n ≤ 1000) :
    Calls Tryz.prog 58 #[.slice A n c, .string p] w fun e w' => e = .returned (.agg #[.string (lookAtS l p).path, .string (lookAtS l p).digest, .bool (lookAtS l p).run]) ∧ Below w.heap.size w w' := by
  go_enter Tryz.func58, Tryz.ntmps58
  go_wp2_with fail
  refine (bsearch_file A n c l p _ ((hsl.keep (keep_lt (fr_alloc (fr_refl w) _))).more (lt_mono (by simp))) hso hn).mono ?_
  rintro e w1 ⟨k, found, rfl, hr, hb1⟩
  have hz1 := grew hb1
  obtain ⟨hc1, hf1⟩ := bcell hb1
  have hbel := fr_box (fr_refl w) hb1
  rcases hr with ⟨rfl, hr⟩ | ⟨rfl, x, hx, hr⟩
  · have HR := Lib.hid (lookAt_none hr); clear hr
    go_wp2
    exact bodyPost_ret (v := .agg #[.string p, .string ⟨#[]⟩, .bool false]) (by simp [results, Tryz.results58, go_sem, *]) rfl ⟨by rw [HR.out], (by repeat (first | exact hbel | refine Below.drew ?_ | refine fr_alloc ?_ _ | refine fr_set ?_ (by simp) _))⟩
  · have HR := Lib.hid (lookAt_some hr); clear hr
    have HX := Lib.hid hx; clear hx
    have hlen : k < n := by have := (List.getElem?_eq_some_iff.1 HX.out).1; rw [hsl.1] at this; exact this
    obtain ⟨b, o, y, A', n', c', rfl, hb, hy, hs1, hnc, hcm, hsl', c0, c1, c2⟩ := ((hsl.keep (keep_lt hbel)).more (lt_mono hbel.size)).file hlen
    obtain rfl : y = x := by rw [HX.out] at hy; cases hy; rfl
    clear hy
    have hlen' : (k : Int) < n := by omega
    have HD := Lib.hid (fun W (hW : W.heap = w1.heap) => blob_Digest A' n' c' y.bytes W (by rw [hW]; exact hsl'.keep (fun q _ => by rw [hW])))
    have hbw : b < w1.heap.size := hb
    have HB := Lib.hid ((box3_new w (.string ⟨#[]⟩) (.string ⟨#[]⟩) (.bool false) 57).call hb1)
    clear hc1 hf1
    obtain ⟨⟨x0, x1, x2⟩, ⟨y0, y1, y2⟩, _⟩ := HB.out
    go_wp2
    go_region_with (go_at_call 92; refine (HD.out _ (by rfl)).mono ?_; rintro e w2 ⟨rfl, hb2⟩; have hb3 := of_drew hb2; have r1 := (hb3.cell (p := ⟨b, o + k * 3 + 1, none⟩) hbw).trans c1; obtain ⟨⟨z0, z1, z2⟩, ⟨v0, v1, v2⟩, _⟩ := HB.out.call hb3)
    all_goals
      go_wp2
      exact bodyPost_ret (v := .agg #[.string p, .string (digestS y.bytes), .bool y.run]) (by simp [results, Tryz.results58, go_sem, *]) rfl ⟨by rw [HR.out], (by repeat (first | exact hbel | exact fr_refl _ | refine fr_call (w := w1) ?_ (of_drew hb2) | refine Below.drew ?_ | refine fr_alloc ?_ _ | refine fr_set ?_ (by simp) _))⟩
end Go.Proofs.Sm
