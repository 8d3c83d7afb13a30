/- Walks: the reference's look at a path. -/
import Derived.Test.YtfdobbclpacijaaGreatDoorW12
import Derived.Test.YtfdobbclpacijaaGreatDoorPlain8
import Derived.StillTailTactics
namespace Go.Proofs.Sm
open Go.RowKit

set_option maxRecDepth 100000 in
theorem ref5_find (A : Option Addr) (n c : Nat) (l : List FileV) (p : ByteArray) (w : World) (hsl : Sl w (Lt w.heap.size) A n l) :
    Calls Tryz.prog 250 #[.slice A n c, .string p] w fun e w' => ∃ r : Int, e = .returned (.int .i64 r) ∧ FindIs l p r ∧ w = w' := by
  have hm : n ≤ 9223372036854775807 := hsl.2.1
  go_enter Tryz.func250, Tryz.ntmps250
  go_wp2
  go_loop [5] (fun i => ∃ k : Nat, k ≤ n ∧ i = .int .i64 k ∧ (l.take k).find? (eqp p) = none) (fun i => n - (intOf i).toNat)
  case atStart => exact ⟨0, Nat.zero_le _, rfl, rfl⟩
  case round =>
    obtain ⟨k, hk, rfl, hd⟩ := hrel
    have Hr := Lib.hid hd; clear hd
    by_cases hlt : k < n
    · obtain ⟨b, o, x, A', n', c', rfl, hb, hx, hs1, hnc, hcm, hsl', c0, c1, c2⟩ := hsl.file hlt
      have HX := Lib.hid hx; clear hx
      cases heq : (x.path.toList == p.toList)
      · have HS := Lib.hid (find_none_succ HX.out Hr.out heq)
        go_wp2
        go_round
        case rel => exact ⟨k + 1, by omega, by go_num, HS.out⟩
        case measure => simp [intOf]; omega
      · have HS := Lib.hid (find_hit HX.out Hr.out heq)
        go_wp2
        go_ret
        exact ⟨_, rfl, .inr ⟨k, x, rfl, HX.out, HS.out⟩, rfl⟩
    · have HS := Lib.hid (find_end (by rw [hsl.1]; omega) Hr.out)
      go_wp2
      go_ret
      exact ⟨_, rfl, .inl ⟨rfl, HS.out⟩, rfl⟩

set_option maxRecDepth 100000 in
theorem ref5_lookAt (A : Option Addr) (n c : Nat) (l : List FileV) (p : ByteArray) (w : World) (hsl : Sl w (Lt w.heap.size) A n l) :
    Calls Tryz.prog 286 #[.slice A n c, .string p] w fun e w' => e = .returned (.agg #[.string (lookAtS l p).path, .string (lookAtS l p).digest, .bool (lookAtS l p).run]) ∧ Below w.heap.size w w' := by
  go_enter Tryz.func286, Tryz.ntmps286
  go_wp2_with fail
  refine (ref5_find A n c l p _ ((hsl.keep (keep_lt (fr_alloc (fr_refl w) _))).more (lt_mono (by simp)))).mono ?_
  rintro e w1 ⟨r, rfl, hr, rfl⟩
  rcases hr with ⟨rfl, hr⟩ | ⟨k, x, rfl, hx, hr⟩
  · have HR := Lib.hid (lookAt_none hr); clear hr
    go_wp2
    exact bodyPost_ret (v := .agg #[.string p, .string ⟨#[]⟩, .bool false]) (by simp [results, Tryz.results286, go_sem]) rfl ⟨by rw [HR.out], fr_alloc (fr_refl w) _⟩
  · have HR := Lib.hid (lookAt_some hr); clear hr
    have HX := Lib.hid hx; clear hx
    have hlen : k < n := by have := (List.getElem?_eq_some_iff.1 HX.out).1; rw [hsl.1] at this; exact this
    obtain ⟨b, o, y, A', n', c', rfl, hb, hy, hs1, hnc, hcm, hsl', c0, c1, c2⟩ := hsl.file hlen
    obtain rfl : y = x := by rw [HX.out] at hy; cases hy; rfl
    clear hy
    have hbw : b < w.heap.size := hb
    have hlen' : (k : Int) < n := by omega
    have hsl2 : Sl (w.alloc (.cells #[.string ⟨#[]⟩, .string ⟨#[]⟩, .bool false] 54)) (Lt (w.alloc (.cells #[.string ⟨#[]⟩, .string ⟨#[]⟩, .bool false] 54)).heap.size) A' n' y.bytes := (hsl'.keep (keep_lt (fr_alloc (fr_refl w) _))).more (lt_mono (by simp))
    have HD := Lib.hid (fun W (hW : W.heap = (w.alloc (.cells #[.string ⟨#[]⟩, .string ⟨#[]⟩, .bool false] 54)).heap) => ref1_Digest A' n' c' y.bytes W (by rw [hW]; exact hsl2.keep (fun q _ => by rw [hW])))
    clear hsl2
    go_wp2
    go_region_with (go_at_call 80; refine (HD.out _ (by rfl)).mono ?_; rintro e w1 ⟨rfl, rfl⟩)
    all_goals
      go_wp2
      exact bodyPost_ret (v := .agg #[.string p, .string (digestS y.bytes), .bool y.run]) (by simp [results, Tryz.results286, go_sem]) rfl ⟨by rw [HR.out], (by repeat (first | exact fr_refl _ | refine Below.drew ?_ | refine fr_alloc ?_ _ | refine fr_set ?_ (by simp) _))⟩
end Go.Proofs.Sm
