/- Walks: the reference's look whether a file has a path. -/
import Derived.Test.YtnhcaelapadhaaaGreatDoorW10
import Derived.Test.YtnhcaelapadhaaaGreatDoorPlain7
namespace Go.Proofs.Sm
open Go.RowKit

set_option maxRecDepth 100000 in
theorem ref1_there (A : Option Addr) (n c : Nat) (l : List FileV) (p : ByteArray) (w : World) (hsl : Sl w (Lt w.heap.size) A n l) (hso : Sorted l) (hn : n ≤ 1000) :
    Calls Tryz.prog 118 #[.slice A n c, .string p] w fun e w' => e = .returned (.bool (hasPath l p.data.toList)) ∧ w = w' := by
  go_enter Tryz.func118, Tryz.ntmps118
  go_wp2
  go_loop [5, 6, 7] (fun i j _ => ∃ lo hi : Nat, i = .int .i64 lo ∧ j = .int .i64 hi ∧ lo ≤ hi ∧ hi ≤ n ∧ Halves l p lo hi) (fun i j _ => (intOf j - intOf i).toNat)
  case atStart => exact ⟨0, n, rfl, rfl, Nat.zero_le _, Nat.le_refl _, by have := Halves.start l p; rwa [hsl.1] at this⟩
  case round =>
    obtain ⟨lo, hi, rfl, rfl, h1, h2, hh⟩ := hrel
    by_cases hlt : lo < hi
    · obtain ⟨m, hm⟩ : ∃ m : Nat, (lo + hi) / 2 = m := ⟨_, rfl⟩
      have hm1 : lo ≤ m := by omega
      have hm2 : m < hi := by omega
      have hq : ((lo : Int) + (hi : Int)) / 2 = (m : Int) := by omega
      have Hm := Lib.hid hm; clear hm
      obtain ⟨b, o, x, A', n', c', rfl, hb, hx, hs1, hnc, hcm, hsl', c0, c1, c2⟩ := hsl.file (k := m) (by omega)
      have HX := Lib.hid hx; clear hx
      cases hle : ltS x.path p
      · have hle' : Op.bytesLess x.path.toList p.toList = false := hle
        have HH := Lib.hid (hh.down hso hm1 hm2 HX.out hle)
        go_wp2
        go_round
        case rel => exact ⟨lo, m, rfl, congrArg (Value.int .i64) hq, hm1, by omega, HH.out⟩
        case measure => simp [intOf]; omega
      · have hle' : Op.bytesLess x.path.toList p.toList = true := hle
        have HH := Lib.hid (hh.up hso hm1 hm2 HX.out hle)
        go_wp2
        go_round
        case rel => exact ⟨m + 1, hi, by go_num, rfl, by omega, h2, HH.out⟩
        case measure => simp [intOf]; omega
    · obtain rfl : lo = hi := by omega
      by_cases hend : lo < n
      · obtain ⟨b, o, x, A', n', c', rfl, hb, hx, hs1, hnc, hcm, hsl', c0, c1, c2⟩ := hsl.file (k := lo) hend
        have HX := Lib.hid hx; clear hx
        cases heq : (x.path.toList == p.toList)
        · have HM := Lib.hid (hh.miss hso (fun y hy => by rw [HX.out] at hy; cases hy; exact heq))
          go_wp2
          go_ret
          exact ⟨ret_bool HM.out.symm, rfl⟩
        · have HM := Lib.hid (hasPath_at HX.out heq)
          go_wp2
          go_ret
          exact ⟨ret_bool HM.out.symm, rfl⟩
      · have HM := Lib.hid (hh.miss hso (fun y hy => by have := (List.getElem?_eq_some_iff.1 hy).1; rw [hsl.1] at this; omega))
        have hg : decide ((lo : Int) < (n : Int)) = false := by simp; omega
        go_wp2
        go_ret
        exact ⟨ret_bool HM.out.symm, rfl⟩
set_option maxRecDepth 100000 in
theorem ref1_inside (A : Option Addr) (n c : Nat) (l : List FileV) (s : ByteArray) (w : World) (hs : s.size ≤ maxLen) (hsl : Sl w (Lt w.heap.size) A n l) (hso : Sorted l) (hn : n ≤ 1000) :
    Calls Tryz.prog 87 #[.slice A n c, .string s] w fun e w' => e = .returned (.bool (clashS l s)) ∧ w = w' := by
  have hm : s.size ≤ 9223372036854775807 := hs
  go_enter Tryz.func87, Tryz.ntmps87
  go_wp2
  go_loop [5] (fun i => ∃ k : Nat, k ≤ s.size ∧ i = .int .i64 k ∧ clashS l s = clashFrom l s (s.size - k) k) (fun i => s.size - (intOf i).toNat)
  case atStart => exact ⟨0, Nat.zero_le _, rfl, rfl⟩
  case round =>
    obtain ⟨k, hk, rfl, hd⟩ := hrel
    have Hr := Lib.hid hd; clear hd
    by_cases hlt : k < s.size
    · have Hth := Lib.hid (ref1_there A n c l (s.extract 0 k) w hsl hso hn)
      have e0 : (s.extract 0 k).data.toList = s.data.toList.take k := by simp
      rw [e0] at Hth
      clear e0
      cases h47 : ((s[k].toNat : Int) == 47)
      · have HS := Lib.hid (clash_other (l := l) hlt (by simpa using h47))
        go_wp2
        go_round
        case rel => exact ⟨k + 1, by omega, by go_num, by rw [Hr.out, HS.out]⟩
        case measure => simp [intOf]; omega
      · cases hp : hasPath l (s.data.toList.take k)
        · have HS := Lib.hid (clash_slash (l := l) hlt hp)
          rw [hp] at Hth
          go_wp2_with (go_at_call 118; refine Hth.out.mono ?_; rintro e w1 ⟨rfl, rfl⟩)
          go_round
          case rel => exact ⟨k + 1, by omega, by go_num, by rw [Hr.out, HS.out]⟩
          case measure => simp [intOf]; omega
        · have HS := Lib.hid (clash_yes (l := l) hlt (by simpa using h47) hp)
          rw [hp] at Hth
          go_wp2_with (go_at_call 118; refine Hth.out.mono ?_; rintro e w1 ⟨rfl, rfl⟩)
          go_ret
          exact ⟨ret_bool (by rw [Hr.out, HS.out]), rfl⟩
    · go_wp2
      go_ret
      exact ⟨ret_bool (by rw [Hr.out, show s.size - k = 0 by omega]; rfl), rfl⟩
end Go.Proofs.Sm
