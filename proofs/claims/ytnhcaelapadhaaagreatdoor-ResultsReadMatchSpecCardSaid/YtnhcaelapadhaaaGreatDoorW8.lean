/- Walks: lists of looks compared. -/
import Derived.Test.YtnhcaelapadhaaaGreatDoorW7
namespace Go.Proofs.Sm
open Go.RowKit

theorem stood_look : Tryz.prog.stoodInHeld 57 = false := by kernel_rfl
theorem fields_look : Tryz.prog.fieldsOf 57 = #[{ name := "Path", type := 9, offset := 0, embedded := false, tag := "", pkgPath := "", byteOffset := 0 },
    { name := "Digest", type := 9, offset := 1, embedded := false, tag := "", pkgPath := "", byteOffset := 16 },
    { name := "Run", type := 4, offset := 2, embedded := false, tag := "", pkgPath := "", byteOffset := 32 }] := by simp [Program.fieldsOf, Tryz.underlying57]
/-- '!=' on looks -/
theorem neq_look (x y : Look) (w : World) : (binOp .neq 57 (.agg #[.string x.path, .string x.digest, .bool x.run]) (.agg #[.string y.path, .string y.digest, .bool y.run])).run Tryz.prog w
   = .ok (.bool (!lookEq x y)) w := by
  rw [run_neq_struct, run_equalIn_agg _ _ _ _ _ (by rw [fields_look]; exact Tryz.underlying57) stood_look, fields_look]
  simp [Op.eqFields, go_sem, Tryz.underlying9, Tryz.underlying4, lookEq]
  repeat' split
  all_goals simp_all

set_option maxRecDepth 100000 in
theorem ref5_SameLooks (A A' : Option Addr) (n n' c c' : Nat) (l l' : List Look) (w : World) (hsl : Sl w (Lt w.heap.size) A n l) (hsl' : Sl w (Lt w.heap.size) A' n' l') :
    Calls Tryz.prog 24 #[.slice A n c, .slice A' n' c'] w fun e w' => e = .returned (.bool (sameLooksS l l')) ∧ Below w.heap.size w w' := by
  have hm : n ≤ 9223372036854775807 := hsl.2.1
  have hm' : n' ≤ 9223372036854775807 := hsl'.2.1
  by_cases hnn : n = n'
  · obtain rfl : n' = n := hnn.symm
    go_enter Tryz.func24, Tryz.ntmps24
    go_wp2
    go_loopw [5] (fun i wr => ∃ k : Nat, k ≤ n' ∧ i = .int .i64 k ∧ sameLooksS l l' = sameLooksS (l.drop k) (l'.drop k) ∧ Below w.heap.size w wr) (fun i _ => n' - (intOf i).toNat)
    case atStart => exact ⟨0, Nat.zero_le _, rfl, rfl, Below.refl _ _⟩
    case round =>
      obtain ⟨k, hk, rfl, hd, hbel⟩ := hrel
      have Hr := Lib.hid hd; clear hd
      by_cases hlt : k < n'
      · obtain ⟨b, o, x, rfl, hb, hx, hs1, hs2, c0, c1, c2⟩ := (hsl.keep (keep_lt hbel)).look hlt
        obtain ⟨b', o', x', rfl, hb', hx', hs1', hs2', c0', c1', c2'⟩ := (hsl'.keep (keep_lt hbel)).look hlt
        have HX := Lib.hid hx; clear hx
        have HX' := Lib.hid hx'; clear hx'
        have hne := neq_look x x'
        cases hq : lookEq x x'
        · rw [hq] at hne
          have HQ := Lib.hid hq; clear hq
          go_wp2
          go_quiet (fail)
          go_wp2
          go_ret
          exact ⟨ret_bool (by rw [Hr.out, sameLooks_stop HX.out HX'.out HQ.out]), below_drewN hbel _⟩
        · rw [hq] at hne
          have HQ := Lib.hid hq; clear hq
          go_wp2
          go_quiet (fail)
          go_wp2
          go_round
          case rel => exact ⟨k + 1, by omega, by go_num, by rw [Hr.out, sameLooks_round HX.out HX'.out HQ.out], below_drewN hbel _⟩
          case measure => simp [intOf]; omega
      · have HE := Lib.hid (sameLooks_end (l := l) (r := l') (k := k) (by rw [hsl.1]; omega) (by rw [hsl'.1]; omega))
        go_wp2
        go_ret
        exact ⟨ret_bool (by rw [Hr.out, HE.out]), hbel⟩
  · have hb : ((n : Int) == (n' : Int)) = false := by simp; omega
    have hb' : ((n : Int) != (n' : Int)) = true := by simp; omega
    go_enter Tryz.func24, Tryz.ntmps24
    go_wp2
    go_ret
    exact ⟨ret_bool (by rw [sameLooks_length (by rw [hsl.1, hsl'.1]; exact hnn)]), Below.refl _ _⟩

end Go.Proofs.Sm
