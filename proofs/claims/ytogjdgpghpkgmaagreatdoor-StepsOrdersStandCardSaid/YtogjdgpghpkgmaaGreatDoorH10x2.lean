/- From the form's own readings to ours: results; the table of powers of ten; a world that lays plain tables. -/
import Derived.Test.YtogjdgpghpkgmaaGreatDoorH10x1
import Derived.Maps.OwnOps
import Derived.Maps.OwnSet
import Derived.StillTailTactics
import Derived.Deep.AppendLies
import Derived.Test.YtogjdgpghpkgmaaGreatDoorCards
import Derived.Test.YtogjdgpghpkgmaaGreatDoorTie
import Derived.OpenShut
import Derived.ShutString
import Derived.ChangeOld
import Derived.Deep.DeepHandedRow
import Derived.Deep.DeepWitnessRowRef
import Derived.Lib.LaidU8
import Derived.Lib.LaidTab
import Derived.Lib.ItoaLen
import Derived.Shelf.GgClosure.StringsIndexFunc
import Derived.Shelf.Strings.FuncGrows
import Derived.Lib.AppendIntMem
import Derived.Lib.LaidIn
namespace Go.Proofs.Sm
open Go.RowKit Go.Maps Go.WideMaps

def raw (v : Value) : Option (DataW Value × List MemPlace) := some (.held v, [])
/-- Block b is a map of at most n entries; a key holds 'f key'. -/
def MapIs (P : Program) (k : TypeId) (w : World) (b n : Nat) (f : List UInt8 → Option Value) : Prop :=
  ∃ D : DataW Value, w.ownsMap P k raw b n D ∧ IsMap D ∧ ∀ key z, D.atKey (.string key) z = match f key with | some v => .held v | none => z

section
variable {P : Program} {k : TypeId} {w w' : World} {b n : Nat} {f : List UInt8 → Option Value}
theorem MapIs.made (w : World) : MapIs P k (w.alloc (.map #[] 0)) w.heap.size 0 (fun _ => none) :=
  ⟨.map [], World.ownsMap_made _ _ _ _, isMap_empty, fun key z => by simp [DataW.atKey]⟩
theorem MapIs.alloc (h : MapIs P k w b n f) (o : Obj) : MapIs P k (w.alloc o) b n f := by
  obtain ⟨D, h1, h2⟩ := h
  exact ⟨D, h1.alloc o, h2⟩
theorem MapIs.keep (h : MapIs P k w b n f) (hk : w'.heap[b]? = w.heap[b]?) : MapIs P k w' b n f := by
  obtain ⟨D, ⟨es, clock, hb, F, h1⟩, h2⟩ := h
  exact ⟨D, ⟨es, clock, hk.trans hb, F, h1⟩, h2⟩
theorem MapIs.lt (h : MapIs P k w b n f) : b < w.heap.size := by
  obtain ⟨D, h1, _⟩ := h
  exact h1.lt
theorem MapIs.call (h : MapIs P k w b n f) (hb : Below w.heap.size w w') : MapIs P k w' b n f := h.keep (hb.block b h.lt)
theorem MapIs.more (h : MapIs P k w b n f) {n' : Nat} (hn : n ≤ n') : MapIs P k w b n' f := by
  obtain ⟨D, h1, h2⟩ := h
  exact ⟨D, h1.mono hn, h2⟩
theorem MapIs.drewN (h : MapIs P k w b n f) (m : Nat) : MapIs P k (w.drewN m) b n f := h.keep rfl
theorem MapIs.setCell (h : MapIs P k w b n f) {p : Addr} (hp : b ≠ p.block) (u : Value) : MapIs P k (w.setCell p u) b n f := h.keep (Below.heap_setCell w p u b hp)

theorem MapIs.look {t e : TypeId} (h : MapIs P k w b n f) (hk : P.underlying k = some .string) (ht : P.underlying t = some (.map k e)) {z : Value} (hz : (zeroValue e).run P w = .ok z w)
    {s : ByteArray} (hs : s.size ≤ maxLen) : (Instr.lookup t (.map (some b)) (.string s) false).run P w = .ok ((f s.data.toList).getD z) w := by
  obtain ⟨D, h1, h2, h3⟩ := h
  obtain ⟨v, ps, hrun, hv⟩ := h1.lookup (string_keyed hk) ht hz (zd := .held z) (zp := []) rfl (kl := .string s.data.toList) (keyOf_string_mk hk hs)
  rw [hrun]
  simp only [raw, h3] at hv
  cases hf : f s.data.toList with
  | none => rw [hf] at hv; simp at hv; simp [hv.1]
  | some u => rw [hf] at hv; simp at hv; simp [hv.1]
theorem MapIs.store {t e : TypeId} (h : MapIs P k w b n f) (hk : P.underlying k = some .string) (ht : P.underlying t = some (.map k e)) (hn : n < maxLen) {s : ByteArray} (hs : s.size ≤ maxLen) (v : Value) :
    ∃ w', (Instr.mapUpdate t (.map (some b)) (.string s) v).run P w = .ok () w' ∧ MapIs P k w' b (n + 1) (fun key => if key = s.data.toList then some v else f key) ∧ w.grownBy w' (some b) := by
  obtain ⟨D, h1, h2, h3⟩ := h
  obtain ⟨w', hrun, hown, hg⟩ := h1.update (string_keyed hk) ht hn (key := .string s) (val := v) (kl := .string s.data.toList) (d := .held v) (ps := []) (keyOf_string_mk hk hs) rfl
  have hkl : WideAt.IsKeyLit (.string s.data.toList) := (string_keyed hk).key (keyOf_string_mk hk hs)
  refine ⟨w', hrun, ⟨_, hown, h2.put _ _, fun key z => ?_⟩, hg⟩
  by_cases he : key = s.data.toList
  · subst he
    rw [atKey_put_same h2 hkl]; simp
  · rw [atKey_put_other (by simpa using he)]
    simp only [if_neg he]
    exact h3 key z
/-- 'm[k] = v' in the walk. -/
theorem wpList_mapUpdate_is (w : World) {ops : Array Oper} {rest : List Oper} {o : Oper} {a : Act} {Q : Exit → Act → World → Prop}
    (hg : o.guard = none) (m x v : Operand) (t : TypeId) (hop : o.op = Op.mapUpdate t m x v) (hk : P.underlying k = some .string) {e : TypeId} (ht : P.underlying t = some (.map k e))
    (hm : a.eval m = .map (some b)) (hmap : MapIs P k w b n f) (hn : n < maxLen) (s : ByteArray) (hs : s.size ≤ maxLen) (val : Value) (hx : a.eval x = .string s) (hv : a.eval v = val)
    (hK : ∀ w', MapIs P k w' b (n + 1) (fun key => if key = s.data.toList then some val else f key) → w.grownBy w' (some b) → wpList P ops Q rest (a.put o.dst undef) w') :
    wpList P ops Q (o :: rest) a w := by
  refine wpList_plain hg fun K' hK' => ?_
  obtain ⟨w', hrun, r1, r2⟩ := hmap.store hk ht hn hs val
  unfold Oper.wp
  simp [execOp, hop, hm, hx, hv, hrun, Result.andThen]
  exact hK' _ _ (hK w' r1 r2)
end
end Go.Proofs.Sm

namespace Go.Proofs.Sm
open Go.RowKit

/-- What 'has' holds. -/
def hasOf (l : List FileV) : List UInt8 → Option Value := fun key => if hasPath l key then some (.bool true) else none

theorem has_look {m nn : Nat} {l : List FileV} {w : World} (hmap : MapIs Tryz.prog 9 w m nn (hasOf l)) {s : ByteArray} (hs : s.size ≤ maxLen) :
    (Instr.lookup 72 (.map (some m)) (.string s) false).run Tryz.prog w = .ok (.bool (hasPath l s.data.toList)) w := by
  have hz : ∀ w, (zeroValue 4).run Tryz.prog w = .ok (.bool false) w := fun w => by kernel_rfl
  rw [hmap.look Tryz.underlying9 Tryz.underlying72 (hz w) hs, hasOf]
  cases hasPath l s.data.toList <;> rfl

set_option maxRecDepth 100000 in
theorem blob_clashes (m nn : Nat) (l : List FileV) (s : ByteArray) (w : World) (hs : s.size ≤ maxLen) (hmap : MapIs Tryz.prog 9 w m nn (hasOf l)) :
    Calls Tryz.prog 163 #[.map (some m), .string s] w fun e w' => e = .returned (.bool (clashS l s)) ∧ w = w' := by
  have hm : s.size ≤ 9223372036854775807 := hs
  go_enter Tryz.func163, Tryz.ntmps163
  go_wp2
  go_loop [5, 8] (fun _ i => ∃ k : Nat, k ≤ s.size ∧ i = .int .i64 k ∧ clashS l s = clashFrom l s (s.size - k) k) (fun _ i => s.size - (intOf i).toNat)
  case atStart => exact ⟨0, Nat.zero_le _, rfl, rfl⟩
  case round =>
    obtain ⟨k, hk, rfl, hd⟩ := hrel
    have Hr := Lib.hid hd; clear hd
    by_cases hlt : k < s.size
    · have hlk := has_look hmap (s := s.extract 0 k) (by rw [ByteArray.size_extract]; omega)
      have e0 : (s.extract 0 k).data.toList = s.data.toList.take k := by simp
      rw [e0] at hlk
      cases h47 : ((s[k].toNat : Int) == 47)
      · have HS := Lib.hid (clash_other (l := l) hlt (by simpa using h47))
        go_wp2
        go_round
        case rel => exact ⟨k + 1, by omega, by go_num, by rw [Hr.out, HS.out]⟩
        case measure => simp [intOf]; omega
      · cases hp : hasPath l (s.data.toList.take k)
        · have HS := Lib.hid (clash_slash (l := l) hlt hp)
          rw [hp] at hlk
          go_wp2
          go_round
          case rel => exact ⟨k + 1, by omega, by go_num, by rw [Hr.out, HS.out]⟩
          case measure => simp [intOf]; omega
        · have HS := Lib.hid (clash_yes (l := l) hlt (by simpa using h47) hp)
          rw [hp] at hlk
          go_wp2
          go_ret
          exact ⟨ret_bool (by rw [Hr.out, HS.out]), rfl⟩
    · go_wp2
      go_ret
      exact ⟨ret_bool (by rw [Hr.out, show s.size - k = 0 by omega]; rfl), rfl⟩
end Go.Proofs.Sm

namespace Go.Proofs.Sm
open Go.RowKit

theorem hasOf_succ {l : List FileV} {k : Nat} {x : FileV} (hx : l[k]? = some x) : (fun key => if key = x.path.data.toList then some (Value.bool true) else hasOf (l.take k) key) = hasOf (l.take (k + 1)) := by
  funext key
  unfold hasOf
  rw [hasPath_succ hx]
  by_cases h : key = x.path.data.toList
  · subst h
    simp
  · have h' : (x.path.data.toList == key) = false := by simpa using fun e => h e.symm
    rw [if_neg h, h', Bool.or_false]

set_option maxRecDepth 100000 in
theorem blob_CheckFiles (A : Option Addr) (n c : Nat) (l : List FileV) (w : World) (hE : Env w) (hsl : Sl w (Lt w.heap.size) A n l) : Calls Tryz.prog 106 #[.slice A n c] w fun e w' => e = .returned (.int .i64 (checkFilesS l)) ∧ Below w.heap.size w w' := by
  have hm : n ≤ 9223372036854775807 := hsl.2.1
  have hmm := @run_makeMap Tryz.prog
  have HL := Lib.hid hsl.1
  by_cases hbig : (1000 : Int) < n
  · go_enter Tryz.func106, Tryz.ntmps106
    go_wp2
    go_ret; exact ⟨ret_int (by rw [checkFilesS, HL.out, if_pos hbig]), Below.refl _ _⟩
  have Hd := Lib.hid (show checkFilesS l = if filesErr none l ≠ 0 then filesErr none l else if l.any (fun x => clashS l x.path) then 12 else if 2000000 < (totalS l : Int) then 2 else 0 by rw [checkFilesS, HL.out, if_neg hbig])
  go_enter Tryz.func106, Tryz.ntmps106
  go_wp2
  go_loopw [3, 5, 15] (fun t _ i wr => ∃ k : Nat, k ≤ n ∧ i = .int .i64 k ∧ t = .int .i64 (totalS (l.take k) : Nat) ∧ totalS (l.take k) ≤ 100000 * k ∧ filesErr none l = filesErr (ahead FileV.path l k) (l.drop k) ∧ MapIs Tryz.prog 9 wr w.heap.size k (hasOf (l.take k)) ∧ Below w.heap.size w wr) (fun _ _ i _ => n - (intOf i).toNat)
  case atStart => exact ⟨0, Nat.zero_le _, rfl, rfl, by simp [totalS], rfl, MapIs.made w, (Below.refl _ _).alloc (Nat.le_refl _) _⟩
  case round =>
    obtain ⟨k, hk, rfl, rfl, htl, hd, hmap, hbel⟩ := hrel
    have Hr := Lib.hid hd; clear hd
    have hbs := hbel.size
    by_cases hlt : k < n
    · obtain ⟨b, o, x, A', n', c', rfl, hb, hx, hs1, hnc, hcm, hsl', c0, c1, c2⟩ := (hsl.keep (keep_lt hbel)).file hlt
      have hbw : b < wr.heap.size := Nat.lt_of_lt_of_le hb hbs
      have HX := Lib.hid hx; clear hx
      have hEr := hE.then_ hbel
      have HLen := Lib.hid hsl'.1
      have hn'm : n' ≤ 9223372036854775807 := hsl'.2.1
      cases hp : isPathS x.path
      · have HV := Lib.hid (fileErr_path (prev := ahead FileV.path l k) hp)
        go_wp2_with (go_at_call 30; refine (blob_IsPath _ _ (hEr.alloc _)).mono ?_; rintro e w1 ⟨rfl, hb1⟩; obtain ⟨hc1, hf1⟩ := bcell hb1; have hz1 := grew hb1)
        go_ret
        exact ⟨ret_int (by rw [Hd.out, Hr.out, files_stop HX.out HV.out (by decide)]; rfl), fr_box hbel hb1⟩
      by_cases hlg : (100000 : Int) < n'
      · have HV := Lib.hid (fileErr_large (prev := ahead FileV.path l k) hp (by rw [HLen.out]; exact hlg))
        go_wp2_with (go_at_call 30; refine (blob_IsPath _ _ (hEr.alloc _)).mono ?_; rintro e w1 ⟨rfl, hb1⟩; obtain ⟨hc1, hf1⟩ := bcell hb1; have hz1 := grew hb1)
        go_ret
        exact ⟨ret_int (by rw [Hd.out, Hr.out, files_stop HX.out HV.out (by decide)]; rfl), fr_box hbel hb1⟩
      have HO := Lib.hid (fileErr_rest (prev := ahead FileV.path l k) hp (by rw [HLen.out]; exact hlg))
      by_cases hk0 : 0 < k
      · have hg : decide ((0 : Int) < (k : Int)) = true := by simpa using hk0
        obtain ⟨_, _, y, _, _, _, e0, _, hy, _, _, _, _, d0, _, _⟩ := (hsl.keep (keep_lt hbel)).file (k := k - 1) (by omega)
        cases e0
        have HA := Lib.hid (ahead_pos (f := FileV.path) hk0 hy); clear hy
        cases hle : leS x.path y.path
        · have HV := Lib.hid (show fileErr (ahead FileV.path l k) x = 0 by rw [HO.out, HA.out]; simp [notAfter, hle])
          have hle' := leS_false hle
          go_wp2_with (go_at_call 30; refine (blob_IsPath _ _ (hEr.alloc _)).mono ?_; rintro e w1 ⟨rfl, hb1⟩; obtain ⟨hc1, hf1⟩ := bcell hb1; have hz1 := grew hb1)
          have d1 : w1.cell? ⟨b, o + (k - 1) * 3, none⟩ = some (.string y.path) := by rw [hb1.cell (by show b < _; simp; omega), World.cell?_alloc_lt _ _ _ (by exact hbw)]; exact d0
          have g1 := IntWalk.i64_in ((k : Int) - 1) ⟨by omega, by omega⟩; have g2 : ((k : Int) - 1).toNat = k - 1 := (by omega); have g3 : (0 : Int) ≤ (k : Int) - 1 := (by omega); have g4 : (k : Int) - 1 < n := (by omega)
          go_quiet (fail)
          clear g1 g2 g3 g4
          go_wp2_with (at_mapUpdate; refine wpList_mapUpdate_is _ rfl _ _ _ 72 rfl Tryz.underlying9 Tryz.underlying72 rfl (((hmap.alloc _).call hb1).drewN _) (by unfold maxLen; omega) x.path hs1 (.bool true) rfl rfl ?_; intro w2 hmap2 hg2)
          have hm3 := hasOf_succ HX.out
          rw [hm3] at hmap2
          clear hm3
          have hbel2 := (below_drewN (fr_box hbel hb1) nq).grown hg2 (Nat.le_trans hbs (Nat.le_of_lt hz1)) (fun j hj => by cases hj; exact Nat.le_refl _)
          go_wp2
          (go_round; (case rel => exact ⟨k + 1, by omega, by go_num, by rw [total_succ HX.out]; exact congrArg (Value.int .i64) (by rw [HLen.out]; push_cast; rfl), by rw [total_succ HX.out]; have := HLen.out; omega, by rw [Hr.out]; exact files_round HX.out HV.out, hmap2, hbel2⟩); (case measure => simp [intOf]; omega))
        · have HV := Lib.hid (show fileErr (ahead FileV.path l k) x = 8 by rw [HO.out, HA.out]; simp [notAfter, hle])
          have hle' := leS_true hle
          go_wp2_with (go_at_call 30; refine (blob_IsPath _ _ (hEr.alloc _)).mono ?_; rintro e w1 ⟨rfl, hb1⟩; obtain ⟨hc1, hf1⟩ := bcell hb1; have hz1 := grew hb1)
          have d1 : w1.cell? ⟨b, o + (k - 1) * 3, none⟩ = some (.string y.path) := by rw [hb1.cell (by show b < _; simp; omega), World.cell?_alloc_lt _ _ _ (by exact hbw)]; exact d0
          have g1 := IntWalk.i64_in ((k : Int) - 1) ⟨by omega, by omega⟩; have g2 : ((k : Int) - 1).toNat = k - 1 := (by omega); have g3 : (0 : Int) ≤ (k : Int) - 1 := (by omega); have g4 : (k : Int) - 1 < n := (by omega)
          go_quiet (fail)
          clear g1 g2 g3 g4
          go_wp2
          go_ret
          exact ⟨ret_int (by rw [Hd.out, Hr.out, files_stop HX.out HV.out (by decide)]; rfl), below_drewN (fr_box hbel hb1) _⟩
      · have hg : decide ((0 : Int) < (k : Int)) = false := by simpa using hk0
        have HV := Lib.hid (show fileErr (ahead FileV.path l k) x = 0 by rw [HO.out, show ahead FileV.path l k = none by simp [ahead]; omega]; rfl)
        go_wp2_with (go_at_call 30; refine (blob_IsPath _ _ (hEr.alloc _)).mono ?_; rintro e w1 ⟨rfl, hb1⟩; obtain ⟨hc1, hf1⟩ := bcell hb1; have hz1 := grew hb1)
        go_quiet (fail)
        go_wp2_with (at_mapUpdate; refine wpList_mapUpdate_is _ rfl _ _ _ 72 rfl Tryz.underlying9 Tryz.underlying72 rfl (((hmap.alloc _).call hb1).drewN _) (by unfold maxLen; omega) x.path hs1 (.bool true) rfl rfl ?_; intro w2 hmap2 hg2)
        have hm3 := hasOf_succ HX.out
        rw [hm3] at hmap2
        clear hm3
        have hbel2 := (below_drewN (fr_box hbel hb1) nq).grown hg2 (Nat.le_trans hbs (Nat.le_of_lt hz1)) (fun j hj => by cases hj; exact Nat.le_refl _)
        go_wp2
        (go_round; (case rel => exact ⟨k + 1, by omega, by go_num, by rw [total_succ HX.out]; exact congrArg (Value.int .i64) (by rw [HLen.out]; push_cast; rfl), by rw [total_succ HX.out]; have := HLen.out; omega, by rw [Hr.out]; exact files_round HX.out HV.out, hmap2, hbel2⟩); (case measure => simp [intOf]; omega))
    · have Hk := Lib.hid (show l.take k = l from List.take_of_length_le (by rw [hsl.1]; omega))
      have Hz := Lib.hid (show filesErr none l = 0 by rw [Hr.out, List.drop_eq_nil_of_le (by rw [hsl.1]; omega)]; rfl)
      rw [Hk.out] at hmap htl
      have Hd2 := Lib.hid (show checkFilesS l = if l.any (fun x => clashS l x.path) then 12 else if 2000000 < (totalS l : Int) then 2 else 0 by rw [Hd.out, if_neg (by rw [Hz.out]; simp)])
      have HT := Lib.hid (show totalS (l.take k) = totalS l by rw [Hk.out])
      generalize totalS (l.take k) = tot at *
      go_wp2
      go_loopw [8, 55] (fun _ i wr => ∃ j : Nat, j ≤ n ∧ i = .int .i64 j ∧ (l.take j).any (fun x => clashS l x.path) = false ∧ MapIs Tryz.prog 9 wr w.heap.size k (hasOf l) ∧ Below w.heap.size w wr) (fun _ i _ => n - (intOf i).toNat)
      case atStart => exact ⟨0, Nat.zero_le _, rfl, rfl, hmap, hbel⟩
      case round =>
        clear hmap hbel hbs
        obtain ⟨j, hj, rfl, hno, hmap, hbel⟩ := hrel
        have HN := Lib.hid hno; clear hno
        by_cases hlt' : j < n
        · obtain ⟨b, o, x, A', n', c', rfl, hb, hx, hs1, hnc, hcm, hsl', c0, c1, c2⟩ := (hsl.keep (keep_lt hbel)).file hlt'
          have HX := Lib.hid hx; clear hx
          cases hq : clashS l x.path
          · have HQ := Lib.hid (any_step HX.out HN.out hq)
            go_wp2_with (go_at_call 163; refine (blob_clashes _ _ l _ _ hs1 (hmap.alloc _)).mono ?_; rintro e w1 ⟨rfl, rfl⟩)
            go_round
            case rel => exact ⟨j + 1, by omega, by go_num, HQ.out, hmap.alloc _, fr_alloc hbel _⟩
            case measure => simp [intOf]; omega
          · have HQ := Lib.hid (any_yes (p := fun x => clashS l x.path) HX.out hq)
            go_wp2_with (go_at_call 163; refine (blob_clashes _ _ l _ _ hs1 (hmap.alloc _)).mono ?_; rintro e w1 ⟨rfl, rfl⟩)
            go_ret
            exact ⟨ret_int (by rw [Hd2.out, if_pos HQ.out]), fr_alloc hbel _⟩
        · have HQ := Lib.hid (any_end (by rw [hsl.1]; omega) HN.out)
          by_cases hmany : (2000000 : Int) < tot
          · go_wp2
            go_ret
            exact ⟨ret_int (by rw [Hd2.out, HQ.out, ← HT.out, if_neg (by decide), if_pos hmany]), hbel⟩
          · go_wp2
            go_ret
            exact ⟨ret_int (by rw [Hd2.out, HQ.out, ← HT.out, if_neg (by decide), if_neg (by omega)]), hbel⟩
end Go.Proofs.Sm

namespace Go.Proofs.Sm
open Go.RowKit

/-- What stands ahead of i comes before p; what stands from j on does not. -/
def Halves (l : List FileV) (p : ByteArray) (i j : Nat) : Prop :=
  i ≤ j ∧ j ≤ l.length ∧ (∀ m x, m < i → l[m]? = some x → ltS x.path p = true) ∧ (∀ m x, j ≤ m → l[m]? = some x → ltS x.path p = false)
theorem Halves.start (l : List FileV) (p : ByteArray) : Halves l p 0 l.length :=
  ⟨Nat.zero_le _, Nat.le_refl _, fun m x h => absurd h (by omega), fun m x h hx => by
    have := (List.getElem?_eq_some_iff.1 hx).1
    omega⟩
section
variable {l : List FileV} {p : ByteArray} {i j m : Nat} {x : FileV}
theorem Halves.up (h : Halves l p i j) (hs : Sorted l) (him : i ≤ m) (hmj : m < j) (hx : l[m]? = some x) (hlt : ltS x.path p = true) : Halves l p (m + 1) j := by
  refine ⟨hmj, h.2.1, fun q y hq hy => ?_, h.2.2.2⟩
  by_cases hqm : q = m
  · subst hqm
    rw [hx] at hy
    cases hy
    exact hlt
  · exact bl_trans (hs q m y x (by omega) hy hx) hlt
theorem Halves.down (h : Halves l p i j) (hs : Sorted l) (him : i ≤ m) (hmj : m < j) (hx : l[m]? = some x) (hlt : ltS x.path p = false) : Halves l p i m := by
  refine ⟨him, by have := h.2.1; omega, h.2.2.1, fun q y hq hy => ?_⟩
  by_cases hqm : q = m
  · subst hqm
    rw [hx] at hy
    cases hy
    exact hlt
  · have h1 := hs m q x y (by omega) hx hy
    cases hyp : ltS y.path p
    · rfl
    · exact absurd (bl_trans h1 hyp) (by rw [show Op.bytesLess x.path.toList p.toList = false from hlt]; decide)
theorem lt_ne {a b : ByteArray} (h : ltS a b = true) : (a.toList == b.toList) = false := by
  simp only [beq_eq_false_iff_ne]
  intro e
  unfold ltS at h
  rw [e, bl_irrefl] at h
  exact absurd h (by decide)
theorem data_beq (a b : ByteArray) : (a.data.toList == b.data.toList) = (a.toList == b.toList) := by rw [Lib.toList_data, Lib.toList_data]
/-- Where the halves meet the place is found, if there is one. -/
theorem Halves.miss (h : Halves l p i i) (hs : Sorted l) (hno : ∀ y, l[i]? = some y → (y.path.toList == p.toList) = false) : hasPath l p.data.toList = false := by
  unfold hasPath
  rw [List.any_eq_false]
  intro y hy
  obtain ⟨q, hq⟩ := List.getElem?_of_mem hy
  rw [data_beq]
  rcases Nat.lt_trichotomy q i with h1 | h1 | h1
  · rw [lt_ne (h.2.2.1 q y h1 hq)]; decide
  · subst h1; rw [hno y hq]; decide
  · obtain ⟨z, hz⟩ : ∃ z, l[i]? = some z := ⟨l[i]'(by have := (List.getElem?_eq_some_iff.1 hq).1; omega), List.getElem?_eq_getElem _⟩
    have h2 := hs i q z y h1 hz hq
    have h3 := h.2.2.2 i z (Nat.le_refl _) hz
    have h4 : ltS p z.path = true := bl_total h3 (by have := hno z hz; simpa using this)
    have h5 := lt_ne (bl_trans h4 h2)
    simp only [beq_eq_false_iff_ne, Bool.not_eq_true] at *
    exact fun e => h5 e.symm
theorem hasPath_at (hx : l[i]? = some x) (he : (x.path.toList == p.toList) = true) : hasPath l p.data.toList = true := by
  unfold hasPath
  rw [List.any_eq_true]
  exact ⟨x, List.mem_of_getElem? hx, by rw [data_beq]; exact he⟩
end
end Go.Proofs.Sm

namespace Go.Proofs.Sm
open Go.RowKit

end Go.Proofs.Sm

namespace Go.Proofs.Sm
open Go.RowKit

end Go.Proofs.Sm

namespace Go.Proofs.Sm
open Go.RowKit

def eqp (p : ByteArray) (y : FileV) : Bool := y.path.toList == p.toList
def lookAtS (l : List FileV) (p : ByteArray) : Look := match l.find? (eqp p) with
  | none => ⟨p, ⟨#[]⟩, false⟩
  | some x => ⟨p, digestS x.bytes, x.run⟩
/-- Where a file stands, or -1. -/
def FindIs (l : List FileV) (p : ByteArray) (r : Int) : Prop := (r = -1 ∧ l.find? (eqp p) = none) ∨ ∃ (k : Nat) (x : FileV), r = k ∧ l[k]? = some x ∧ l.find? (eqp p) = some x
theorem find_none_succ {l : List FileV} {p : ByteArray} {k : Nat} {x : FileV} (hx : l[k]? = some x) (h : (l.take k).find? (eqp p) = none) (hn : (x.path.toList == p.toList) = false) : (l.take (k + 1)).find? (eqp p) = none := by
  rw [List.take_add_one, hx, List.find?_append, h]
  simp [eqp, hn]
theorem find_hit {l : List FileV} {p : ByteArray} {k : Nat} {x : FileV} (hx : l[k]? = some x) (h : (l.take k).find? (eqp p) = none) (hn : (x.path.toList == p.toList) = true) : l.find? (eqp p) = some x := by
  have e : l = l.take k ++ x :: l.drop (k + 1) := by rw [← drop_at hx, List.take_append_drop]
  rw [e, List.find?_append, h]
  simp [eqp, hn]
theorem find_end {l : List FileV} {p : ByteArray} {k : Nat} (hk : ¬ k < l.length) (h : (l.take k).find? (eqp p) = none) : l.find? (eqp p) = none := by
  rwa [List.take_of_length_le (by omega)] at h
theorem lookAt_none {l : List FileV} {p : ByteArray} (h : l.find? (eqp p) = none) : lookAtS l p = ⟨p, ⟨#[]⟩, false⟩ := by simp [lookAtS, h]
theorem lookAt_some {l : List FileV} {p : ByteArray} {x : FileV} (h : l.find? (eqp p) = some x) : lookAtS l p = ⟨p, digestS x.bytes, x.run⟩ := by simp [lookAtS, h]
theorem find_sorted {l : List FileV} {p : ByteArray} {k : Nat} {x : FileV} (hso : Sorted l) (hx : l[k]? = some x) (hn : (x.path.toList == p.toList) = true) : l.find? (eqp p) = some x := by
  refine find_hit hx ?_ hn
  rw [List.find?_eq_none]
  intro y hy
  obtain ⟨q, hq⟩ := List.getElem?_of_mem hy
  rw [List.getElem?_take] at hq
  split at hq
  · rename_i hqk
    have h1 := lt_ne (hso q k y x hqk hq hx)
    simp only [eqp, beq_iff_eq, beq_eq_false_iff_ne] at *
    rw [← hn]; exact h1
  · cases hq
theorem Halves.none {l : List FileV} {p : ByteArray} {i : Nat} (h : Halves l p i i) (hs : Sorted l) (hno : ∀ y, l[i]? = some y → (y.path.toList == p.toList) = false) : l.find? (eqp p) = Option.none := by
  have := h.miss hs hno
  unfold hasPath at this
  rw [List.any_eq_false] at this
  rw [List.find?_eq_none]
  intro y hy
  have h1 := this y hy
  rw [data_beq] at h1
  simpa [eqp] using h1
end Go.Proofs.Sm

namespace Go.Proofs.Sm
open Go.RowKit

end Go.Proofs.Sm

namespace Go.Proofs.Sm
open Go.RowKit

/-- a box of three cells of the call's own, behind whatever leaves it alone -/
def Box3 (w : World) (g : Nat) (a b c : Value) : Prop :=
  (w.cell? ⟨g, 0, none⟩ = some a ∧ w.cell? ⟨g, 1, none⟩ = some b ∧ w.cell? ⟨g, 2, none⟩ = some c) ∧ (w.frozen? ⟨g, 0, none⟩ = false ∧ w.frozen? ⟨g, 1, none⟩ = false ∧ w.frozen? ⟨g, 2, none⟩ = false) ∧ g < w.heap.size
theorem box3_new (w : World) (a b c : Value) (t : TypeId) : Box3 (w.alloc (.cells #[a, b, c] t)) w.heap.size a b c := by
  have h0 : (w.alloc (.cells #[a, b, c] t)).heap[w.heap.size]? = some (.cells #[a, b, c] t (0, 0)) := heap_alloc_new w _
  refine ⟨⟨?_, ?_, ?_⟩, ⟨?_, ?_, ?_⟩, by simp⟩ <;> (first | rw [World.cell?, h0] | rw [World.frozen?, h0]) <;> rfl
theorem Box3.call {w w1 : World} {g : Nat} {a b c : Value} (h : Box3 w g a b c) (hb : Below w.heap.size w w1) : Box3 w1 g a b c := by
  obtain ⟨⟨h1, h2, h3⟩, ⟨h4, h5, h6⟩, h7⟩ := h
  exact ⟨⟨(hb.cell h7).trans h1, (hb.cell h7).trans h2, (hb.cell h7).trans h3⟩, ⟨(hb.frozen h7).trans h4, (hb.frozen h7).trans h5, (hb.frozen h7).trans h6⟩, Nat.lt_of_lt_of_le h7 hb.size⟩

end Go.Proofs.Sm

namespace Go.Proofs.Sm
open Go.RowKit

/-- three-way comparison -/
theorem cmp_lt : ∀ a b : List UInt8, (Lib.compareBytes a b < 0) ↔ Op.bytesLess a b = true
  | [], [] => by simp [Lib.compareBytes, Op.bytesLess]
  | [], _ :: _ => by simp [Lib.compareBytes, Op.bytesLess]
  | _ :: _, [] => by simp [Lib.compareBytes, Op.bytesLess]
  | x :: a, y :: b => by
    have ih := cmp_lt a b
    simp only [Lib.compareBytes, Op.bytesLess]
    split
    · simp_all
    · split
      · rename_i h1 h2
        have : ¬ x = y := fun e => by subst e; exact h1 h2
        simp_all
      · rename_i h1 h2
        have : x = y := by
          apply UInt8.toNat_inj.1
          have h1' : ¬ x.toNat < y.toNat := fun h => h1 (UInt8.lt_iff_toNat_lt.2 h)
          have h2' : ¬ y.toNat < x.toNat := fun h => h2 (UInt8.lt_iff_toNat_lt.2 h)
          omega
        subst this
        simp_all
theorem cmp_eq : ∀ a b : List UInt8, (Lib.compareBytes a b = 0) ↔ a = b
  | [], [] => by simp [Lib.compareBytes]
  | [], _ :: _ => by simp [Lib.compareBytes]
  | _ :: _, [] => by simp [Lib.compareBytes]
  | x :: a, y :: b => by
    have ih := cmp_eq a b
    simp only [Lib.compareBytes]
    split
    · rename_i h1
      have : ¬ x = y := fun e => by subst e; exact UInt8.lt_irrefl _ h1
      simp_all
    · split
      · rename_i h1 h2
        have : ¬ x = y := fun e => by subst e; exact h1 h2
        simp_all
      · rename_i h1 h2
        have : x = y := by
          apply UInt8.toNat_inj.1
          have h1' : ¬ x.toNat < y.toNat := fun h => h1 (UInt8.lt_iff_toNat_lt.2 h)
          have h2' : ¬ y.toNat < x.toNat := fun h => h2 (UInt8.lt_iff_toNat_lt.2 h)
          omega
        subst this
        simp_all
end Go.Proofs.Sm

namespace Go.Proofs.Sm
open Go.RowKit

theorem flatMap_at {α : Type} {cells : α → List Value} {sz : Nat} (hlen : ∀ x, (cells x).length = sz) : ∀ {l : List α} {i j : Nat} {x : α}, l[i]? = some x → j < sz → (l.flatMap cells)[i * sz + j]? = (cells x)[j]?
  | [], i, j, x, hx, _ => by simp at hx
  | a :: l, 0, j, x, hx, hj => by
    obtain rfl : a = x := by simpa using hx
    rw [List.flatMap_cons, Nat.zero_mul, Nat.zero_add, List.getElem?_append_left (by rw [hlen]; exact hj)]
  | a :: l, i + 1, j, x, hx, hj => by
    have hx' : l[i]? = some x := by simpa using hx
    rw [List.flatMap_cons, List.getElem?_append_right (by rw [hlen, Nat.succ_mul]; omega), hlen, ← flatMap_at hlen hx' hj]
    congr 1
    rw [Nat.succ_mul]
    omega
theorem ownsRow_call {w w' : World} {base : Nat} {e : TypeId} {size : Nat} {v : Value} {n : Nat} {xs : List Value} (h : w.ownsRow base e size v n xs) (hb : Below w.heap.size w w') : w'.ownsRow base e size v n xs :=
  h.kept (row := none) ⟨hb.os, hb.tape, hb.output, hb.size, fun i hi _ => hb.block i hi⟩ (by
    cases v.ownBlock with
    | none => exact .inl rfl
    | some k => exact .inr (by simp))
theorem Sl.of_own {α : Type} [Rep α] {w : World} {base : Nat} {e : TypeId} {v : Value} {l : List α} {cells : α → List Value} (hlen : ∀ x, (cells x).length = Rep.sz α)
    (hrep : ∀ x ∈ l, Rep.rep w (Lt w.heap.size) x (cells x)) (h : w.ownsRow base e (Rep.sz α) v l.length (l.flatMap cells)) :
    ∃ A c, v = .slice A l.length c ∧ l.length ≤ c ∧ c ≤ maxLen ∧ Sl w (Lt w.heap.size) A l.length l := by
  have hcells := fun g hg => h.cells (g := g) hg
  have hlt := h.lt
  obtain ⟨_, h2⟩ := h
  rcases h2 with ⟨rfl, h0⟩ | ⟨g, cap, cur, rfl, hb, hh, hnc, hcm, _, _⟩
  · rw [h0]
    have hl : l = [] := List.eq_nil_of_length_eq_zero h0
    subst hl
    exact ⟨none, 0, rfl, Nat.le_refl _, Nat.zero_le _, Sl.nil⟩
  · refine ⟨some ⟨g, 0, none⟩, cap, rfl, hnc, hcm, rfl, Nat.le_trans hnc hcm, fun hn => ⟨g, 0, rfl, (hlt g rfl).2, fun i x hx => ⟨cells x, hrep x (List.mem_of_getElem? hx), fun j u hu => ?_⟩⟩⟩
    have hj : j < Rep.sz α := by
      have := (List.getElem?_eq_some_iff.1 hu).1
      rw [hlen] at this
      exact this
    have h3 := hcells g rfl (i * Rep.sz α + j) u (by rw [flatMap_at hlen hx hj]; exact hu)
    have e : (⟨g, 0, none⟩ : Addr).add (i * Rep.sz α + j) = ⟨g, 0 + i * Rep.sz α + j, none⟩ := by
      unfold Addr.add
      split
      · rename_i h4
        have h5 : 0 + i * Rep.sz α + j = 0 := by omega
        rw [h5]
      · simp
    rw [e] at h3
    exact h3
end Go.Proofs.Sm

namespace Go.Proofs.Sm
open Go.RowKit

def lookCells (x : Look) : List Value := [.string x.path, .string x.digest, .bool x.run]
def looksAtS (l : List Look) (files : List FileV) : List Look := l.map fun x => lookAtS files x.path
theorem digestS_size (l : List UInt8) : (digestS l).size = 16 := by simp [digestS, ByteArray.size]
theorem lookAtS_path (files : List FileV) (p : ByteArray) : (lookAtS files p).path = p := by unfold lookAtS; split <;> rfl
theorem lookAtS_size (files : List FileV) (p : ByteArray) : (lookAtS files p).digest.size ≤ 16 := by
  unfold lookAtS
  split
  · exact Nat.zero_le _
  · rw [digestS_size]; exact Nat.le_refl _
theorem look_info : (Tryz.prog.info? 116).map (fun i => (i.zero, i.size, i.bytes)) = some (some (.agg #[.string ⟨#[]⟩, .string ⟨#[]⟩, .bool false]), 3, 40) := by kernel_rfl

theorem new_cells (w : World) (cs : Array Value) (t : TypeId) : ∀ (j : Nat) u, cs.toList[j]? = some u → (w.alloc (.cells cs t)).cell? ((⟨w.heap.size, 0, none⟩ : Addr).add j) = some u := by
  intro j u hu
  have h0 : (w.alloc (.cells cs t)).heap[w.heap.size]? = some (.cells cs t (0, 0)) := heap_alloc_new w _
  have e : (⟨w.heap.size, 0, none⟩ : Addr).add j = ⟨w.heap.size, j, none⟩ := by
    unfold Addr.add
    split
    · simp [*]
    · simp
  rw [e, World.cell?, h0]
  simpa using hu
theorem oneCell_look (x : Look) : ∀ u ∈ lookCells x, u.oneCell' = true := by
  intro u hu
  simp only [lookCells, List.mem_cons, List.mem_nil_iff, or_false] at hu
  rcases hu with rfl | rfl | rfl <;> rfl
theorem looksAt_own {w : World} {base : Nat} {v : Value} {l : List Look} {files : List FileV} (hl : ∀ x ∈ l, x.path.size ≤ maxLen) (h : w.ownsRow base 116 3 v l.length ((looksAtS l files).flatMap lookCells)) :
    ∃ A c, v = .slice A l.length c ∧ l.length ≤ c ∧ c ≤ maxLen ∧ Sl w (Lt w.heap.size) A l.length (looksAtS l files) := by
  have hlen : (looksAtS l files).length = l.length := by simp [looksAtS]
  rw [← hlen] at h ⊢
  refine Sl.of_own (α := Look) (cells := lookCells) (fun _ => rfl) (fun x hx => ?_) h
  obtain ⟨y, hy, rfl⟩ := List.mem_map.1 hx
  refine ⟨rfl, ?_, ?_⟩
  · rw [lookAtS_path]; exact hl y hy
  · exact Nat.le_trans (lookAtS_size _ _) (by unfold maxLen; decide)
theorem Sl.look_sizes {w : World} {S : Nat → Prop} {A : Option Addr} {n : Nat} {l : List Look} (h : Sl w S A n l) : ∀ x ∈ l, x.path.size ≤ maxLen := by
  intro x hx
  obtain ⟨k, hk⟩ := List.getElem?_of_mem hx
  have hkn : k < n := by
    have := (List.getElem?_eq_some_iff.1 hk).1
    rw [h.1] at this
    exact this
  obtain ⟨_, _, y, _, _, hy, hs, _⟩ := h.look hkn
  rw [hk] at hy
  cases hy
  exact hs

end Go.Proofs.Sm

namespace Go.Proofs.Sm
open Go.RowKit

theorem ret_pair {a b c d : Value} (h1 : a = c) (h2 : b = d) : Ending.returned (.tuple #[a, b]) = .returned (.tuple #[c, d]) := by rw [h1, h2]
def looksOfErr (l : List Look) (files : List FileV) : Int := if checkLooksS l ≠ 0 then checkLooksS l else checkFilesS files
def looksOfS (l : List Look) (files : List FileV) : List Look := if looksOfErr l files = 0 then looksAtS l files else []
theorem checkLooks_len {l : List Look} (h : checkLooksS l = 0) : l.length ≤ 4000 := by
  unfold checkLooksS at h
  split at h
  · omega
  · omega
theorem checkFiles_len {l : List FileV} (h : checkFilesS l = 0) : l.length ≤ 1000 := by
  unfold checkFilesS at h
  split at h
  · omega
  · omega
theorem checkFiles_sorted {l : List FileV} (h : checkFilesS l = 0) : Sorted l := by
  unfold checkFilesS at h
  split at h
  · omega
  · split at h
    · rename_i h1
      exact absurd h h1
    · rename_i h1
      exact sorted_of (by simpa using h1)

end Go.Proofs.Sm

namespace Go.Proofs.Sm
open Go.RowKit

theorem sl_call {α : Type} [Rep α] {w w' : World} {A : Option Addr} {n : Nat} {l : List α} {B : Nat} (h : Sl w (Lt B) A n l) (hb : Below B w w') (hB : B ≤ w.heap.size) : Sl w' (Lt w'.heap.size) A n l :=
  (h.keep (keep_lt hb)).more (lt_mono (Nat.le_trans hB hb.size))

end Go.Proofs.Sm

namespace Go.Proofs.Sm
open Go.RowKit

def aLook : Look := ⟨⟨#[97]⟩, ⟨#[]⟩, false⟩
def aFile : FileV := ⟨⟨#[97]⟩, false, []⟩
def bLook : Look := ⟨⟨#[97]⟩, ⟨#[99, 98, 102, 50, 57, 99, 101, 52, 56, 52, 50, 50, 50, 51, 50, 53]⟩, false⟩
theorem a_err : looksOfErr [aLook] [aFile] = 0 := by decide +kernel
theorem a_looks : looksOfS [aLook] [aFile] = [bLook] := sameLooksS_iff.1 (by decide +kernel)
theorem at_box3 {w : World} {g : Nat} {a b c : Value} (h : Box3 w g a b c) : At w g 0 [a, b, c] := by
  intro j v hv
  match j, hv with
  | 0, hv => cases hv; exact h.1.1
  | 1, hv => cases hv; exact h.1.2.1
  | 2, hv => cases hv; exact h.1.2.2
theorem one_look {w : World} {g : Nat} {x : Look} (h : Box3 w g (.string x.path) (.string x.digest) (.bool x.run)) (h1 : x.path.size ≤ maxLen) (h2 : x.digest.size ≤ maxLen) : Sl w (Lt w.heap.size) (some ⟨g, 0, none⟩) 1 [x] :=
  ⟨rfl, by unfold maxLen; decide, fun _ => ⟨g, 0, rfl, h.2.2, fun i y hy => by
    cases i with
    | zero => cases hy; exact ⟨_, ⟨rfl, h1, h2⟩, at_box3 h⟩
    | succ i => simp at hy⟩⟩
theorem one_file {w : World} {g : Nat} {x : FileV} (h : Box3 w g (.string x.path) (.bool x.run) (.slice none 0 0)) (h1 : x.path.size ≤ maxLen) (hb : x.bytes = []) : Sl w (Lt w.heap.size) (some ⟨g, 0, none⟩) 1 [x] :=
  ⟨rfl, by unfold maxLen; decide, fun _ => ⟨g, 0, rfl, h.2.2, fun i y hy => by
    cases i with
    | zero => cases hy; exact ⟨_, ⟨h1, none, 0, 0, rfl, Nat.le_refl _, Nat.zero_le _, by rw [hb]; exact Sl.nil⟩, at_box3 h⟩
    | succ i => simp at hy⟩⟩

end Go.Proofs.Sm

namespace Go.Proofs.Sm
open Go.RowKit Go.ChangeShapes Go.WideShapes Go.ChangeAt

theorem own : ownKnob Tryz.prog.godebug = none := by kernel_rfl
theorem laidOut : laidOutB Tryz.prog = true := by kernel_rfl

section
variable {H : Type} {enc : TypeId × Value → H} {w : World} {base : Nat} {spare : Nat → Bool} {held : Bool}
theorem at_some {α : Type} {xs : List α} {n i : Nat} (h : xs.length = n) (hi : i < n) : ∃ y, xs[i]? = some y := ⟨xs[i]'(by omega), List.getElem?_eq_getElem _⟩
theorem three_of {α : Type} {l : List α} (h : l.length = 3) : ∃ a b c, l = [a, b, c] := by
  rcases l with _ | ⟨a, _ | ⟨b, _ | ⟨c, _ | ⟨e, r⟩⟩⟩⟩
  · simp at h
  · simp at h
  · simp at h
  · exact ⟨a, b, c, rfl⟩
  · simp at h
theorem dec_look : Dec enc Tryz.prog w base spare held 116 Look := fun fuel cs d h => by
  obtain ⟨xs, n, _, _, hlen, hxl, hf⟩ := DataW.trod_struct Tryz.underlying116 h
  have hc : Tryz.prog.cellsOf 116 = 3 := by kernel_rfl
  have cS : Tryz.prog.cellsOf 9 = 1 := by kernel_rfl
  have cB : Tryz.prog.cellsOf 4 = 1 := by kernel_rfl
  rw [hc] at hlen
  have hxl' : xs.length = 3 := hxl
  obtain ⟨a, b, c, rfl⟩ := three_of hlen
  · -- the three cells
    obtain ⟨y0, e0⟩ := at_some hxl' (show 0 < 3 by decide)
    obtain ⟨y1, e1⟩ := at_some hxl' (show 1 < 3 by decide)
    obtain ⟨y2, e2⟩ := at_some hxl' (show 2 < 3 by decide)
    have f0 : DataW.trod enc Tryz.prog w base spare held n 9 [a] = some y0 := by
      have h := (hf 0 _ rfl).trans e0
      change DataW.trod enc _ w base spare held n 9 (List.take (Tryz.prog.cellsOf 9) (List.drop 0 [a, b, c])) = some y0 at h
      rw [cS] at h
      exact h
    have f1 : DataW.trod enc Tryz.prog w base spare held n 9 [b] = some y1 := by
      have h := (hf 1 _ rfl).trans e1
      change DataW.trod enc _ w base spare held n 9 (List.take (Tryz.prog.cellsOf 9) (List.drop 1 [a, b, c])) = some y1 at h
      rw [cS] at h
      exact h
    have f2 : DataW.trod enc Tryz.prog w base spare held n 4 [c] = some y2 := by
      have h := (hf 2 _ rfl).trans e2
      change DataW.trod enc _ w base spare held n 4 (List.take (Tryz.prog.cellsOf 4) (List.drop 2 [a, b, c])) = some y2 at h
      rw [cB] at h
      exact h
    obtain ⟨s0, h0, _, z0⟩ := DataW.trod_string Tryz.underlying9 f0
    obtain ⟨s1, h1, _, z1⟩ := DataW.trod_string Tryz.underlying9 f1
    obtain ⟨r, h2, _⟩ := DataW.trod_bool Tryz.underlying4 f2
    cases h0; cases h1; cases h2
    exact ⟨⟨s0, s1, r⟩, rfl, z0, z1⟩
theorem dec_bytes : Dec enc Tryz.prog w base spare held 174 (List UInt8) := dec_slice Tryz.underlying174 (by kernel_rfl) (by decide) (dec_u8 Tryz.underlying5)
theorem dec_file : Dec enc Tryz.prog w base spare held 176 FileV := fun fuel cs d h => by
  obtain ⟨xs, n, _, _, hlen, hxl, hf⟩ := DataW.trod_struct Tryz.underlying176 h
  have hc : Tryz.prog.cellsOf 176 = 3 := by kernel_rfl
  have cS : Tryz.prog.cellsOf 9 = 1 := by kernel_rfl
  have cB : Tryz.prog.cellsOf 4 = 1 := by kernel_rfl
  have cL : Tryz.prog.cellsOf 174 = 1 := by kernel_rfl
  rw [hc] at hlen
  have hxl' : xs.length = 3 := hxl
  obtain ⟨a, b, c, rfl⟩ := three_of hlen
  · -- the three cells
    obtain ⟨y0, e0⟩ := at_some hxl' (show 0 < 3 by decide)
    obtain ⟨y1, e1⟩ := at_some hxl' (show 1 < 3 by decide)
    obtain ⟨y2, e2⟩ := at_some hxl' (show 2 < 3 by decide)
    have f0 : DataW.trod enc Tryz.prog w base spare held n 9 [a] = some y0 := by
      have h := (hf 0 _ rfl).trans e0
      change DataW.trod enc _ w base spare held n 9 (List.take (Tryz.prog.cellsOf 9) (List.drop 0 [a, b, c])) = some y0 at h
      rw [cS] at h
      exact h
    have f1 : DataW.trod enc Tryz.prog w base spare held n 4 [b] = some y1 := by
      have h := (hf 1 _ rfl).trans e1
      change DataW.trod enc _ w base spare held n 4 (List.take (Tryz.prog.cellsOf 4) (List.drop 1 [a, b, c])) = some y1 at h
      rw [cB] at h
      exact h
    have f2 : DataW.trod enc Tryz.prog w base spare held n 174 [c] = some y2 := by
      have h := (hf 2 _ rfl).trans e2
      change DataW.trod enc _ w base spare held n 174 (List.take (Tryz.prog.cellsOf 174) (List.drop 2 [a, b, c])) = some y2 at h
      rw [cL] at h
      exact h
    obtain ⟨s0, h0, _, z0⟩ := DataW.trod_string Tryz.underlying9 f0
    obtain ⟨r, h1, _⟩ := DataW.trod_bool Tryz.underlying4 f1
    obtain ⟨bs, A, k, m, h2, q1, q2, q3⟩ := dec_bytes _ _ _ f2
    cases h0; cases h1; cases h2
    exact ⟨⟨s0, r, bs⟩, z0, A, k, m, rfl, q1, q2, q3⟩
theorem dec_looks : Dec enc Tryz.prog w base spare held 54 (List Look) := dec_slice Tryz.underlying54 (by kernel_rfl) (by decide) dec_look
theorem dec_files : Dec enc Tryz.prog w base spare held 55 (List FileV) := dec_slice Tryz.underlying55 (by kernel_rfl) (by decide) dec_file
/-- a slice argument, as a value -/
theorem arg_slice {α : Type} [Rep α] {t : TypeId} {v : Value} {d : DataW H} {p : List MemPlace} (hd : Dec enc Tryz.prog w base spare held t (List α)) (hv : ∃ a n c, v = .slice a n c) (h : DataW.Trod enc Tryz.prog w base spare held t v d p) :
    ∃ (A : Option Addr) (n c : Nat) (l : List α), v = .slice A n c ∧ Sl w (Lt w.heap.size) A n l := by
  obtain ⟨a, n, c, rfl⟩ := hv
  obtain ⟨fuel, hf⟩ := h
  obtain ⟨l, A, n', c', e, _, _, hs⟩ := hd _ _ _ hf
  simp [Value.cells] at e
  obtain ⟨rfl, rfl, rfl⟩ := e
  exact ⟨_, _, _, l, rfl, hs⟩
end
theorem first_pinned : Go.Pinned.utf8First = Lib.firstData := by kernel_rfl
theorem accept_laid : YtogjdgpghpkgmaaGreatDoor.Rows.laid_unicode_utf8_acceptRanges = Lib.acceptData := by kernel_rfl
/-- The tables of utf8, and the length that bytealg takes. -/
theorem env_of {laid : List (String × DataW Unit)} {W : World} (hL : laidMet Tryz.prog laid W) (hS : W.ShapedOpen Tryz.prog) (h3 : ("unicode/utf8.first", Go.Pinned.utf8First) ∈ laid) (h4 : ("unicode/utf8.acceptRanges", YtogjdgpghpkgmaaGreatDoor.Rows.laid_unicode_utf8_acceptRanges) ∈ laid) : Env W where
  size := by
    have hsome : (((begin Tryz.prog (fun _ _ => 0) default).world.heap[7]?).bind Obj.row?).isSome = true := by kernel_rfl
    have hlt : 7 < Tryz.prog.globals.size := of_decide_eq_true (by kernel_rfl)
    obtain ⟨⟨zero, t⟩, hz⟩ := Option.isSome_iff_exists.1 hsome
    obtain ⟨cs, hh, _⟩ := hS.1 _ zero t hlt hz
    exact (Array.getElem?_eq_some_iff.1 hh).1
  most := Tryz.laysM143.s1_3 W hS
  utf8 := utf8Tabs_of_reads { Tryz.lays260 with } ⟨by kernel_rfl, by kernel_rfl, by kernel_rfl, by kernel_rfl, by kernel_rfl, by kernel_rfl, by kernel_rfl⟩
    (by have := Lib.laidMet.reads hL h3; rwa [first_pinned] at this) (by have := Lib.laidMet.reads hL h4; rwa [accept_laid] at this)
end Go.Proofs.Sm

namespace Go.Proofs.Sm
open Go.RowKit

structure ResultV where
  code : Int
  text : ByteArray
  files : List FileV
  looks : List Look
  command : Int

/-! ### Texts that are told -/
def textI (c : Int) : Bool := c == 10 || (decide (32 ≤ c) && decide (c ≤ 126))
def textB (c : UInt8) : Bool := textI (c.toNat : Int)
def endsS (l : List UInt8) : Bool := l.isEmpty || l.getLast? == some 10
def isTextS (s : ByteArray) : Bool := s.data.toList.all textB && endsS s.data.toList

theorem decode_small {s : ByteArray} {i : Nat} (h : (s.get! i).toNat < 128) : Utf8.decode s i = ((s.get! i).toNat, 1) := by
  have h' : (s.get! (i + 0)).toNat < 0x80 := h
  simp only [Utf8.decode, if_pos h']
  rfl
theorem decode_big {s : ByteArray} {i : Nat} (h : 128 ≤ (s.get! i).toNat) : 128 ≤ (Utf8.decode s i).1 := by
  have h' : ¬ (s.get! (i + 0)).toNat < 0x80 := by
    show ¬ (s.get! i).toNat < 128
    omega
  simp only [Utf8.decode, if_neg h']
  repeat' split
  all_goals (first | (unfold Utf8.runeError; omega) | omega | (simp only [Bool.and_eq_true, decide_eq_true_eq, ge_iff_le] at *; omega))
theorem idxFuncFrom_bytes (p : Nat → Bool) (hp : ∀ x, 127 ≤ x → p x = true) (s : ByteArray) : ∀ (f pos : Nat), s.size ≤ pos + f → decide (0 ≤ Lib.idxFuncFrom p true s f pos) = (s.data.toList.drop pos).any (fun c => p c.toNat)
  | 0, pos, h => by
    rw [List.drop_eq_nil_of_le (by simp; exact h)]
    simp [Lib.idxFuncFrom]
  | f + 1, pos, h => by
    rw [Lib.idxFuncFrom]
    by_cases hlt : pos < s.size
    · rw [if_pos hlt]
      have hlt' : pos < s.data.toList.length := by simpa using hlt
      rw [List.drop_eq_getElem_cons hlt', List.any_cons]
      have hg : s.get! pos = s.data.toList[pos] := by
        show s.data[pos]! = _
        rw [getElem!_pos s.data pos (by simpa using hlt)]
        simp
      by_cases h128 : (s.get! pos).toNat < 128
      · rw [decode_small h128, hg]
        cases hq : p s.data.toList[pos].toNat
        · simp only [Bool.false_eq_true, if_false, Bool.false_or]
          exact idxFuncFrom_bytes p hp s f (pos + 1) (by omega)
        · simp
      · have h2 := decode_big (s := s) (i := pos) (by omega)
        rw [hp _ (by omega), if_pos rfl, ← hg, hp _ (by omega)]
        simp
    · rw [if_neg hlt, List.drop_eq_nil_of_le (by simp; omega)]
      simp
theorem idxFunc_bytes (p : Nat → Bool) (hp : ∀ x, 127 ≤ x → p x = true) (s : ByteArray) : decide (0 ≤ Lib.idxFunc p true s) = s.data.toList.any (fun c => p c.toNat) :=
  idxFuncFrom_bytes p hp s s.size 0 (by omega)

/-- no byte of a text is another one -/
def untold (x : Nat) : Bool := !(textI (x : Int))
theorem untold_big (x : Nat) (h : 127 ≤ x) : untold x = true := by
  simp only [untold, textI, Bool.not_eq_true', Bool.or_eq_false_iff, beq_eq_false_iff_ne, Bool.and_eq_false_iff, decide_eq_false_iff_not]
  omega
theorem untold_any (s : ByteArray) : decide (0 ≤ Lib.idxFunc untold true s) = !(s.data.toList.all textB) := by
  rw [idxFunc_bytes untold untold_big, List.not_all_eq_any_not]
  rfl
theorem ends_suffix (l : List UInt8) (h : l ≠ []) : Lib.hasSuffix l [10] = endsS l := by
  unfold Lib.hasSuffix endsS
  rw [Bool.eq_iff_iff, List.isSuffixOf_iff_suffix]
  rcases List.eq_nil_or_concat l with rfl | ⟨l', x, rfl⟩
  · exact absurd rfl h
  · rw [List.concat_eq_append, List.getLast?_append]
    simp only [List.getLast?_singleton, Option.some_or, Bool.or_eq_true, List.isEmpty_iff, List.append_eq_nil_iff, List.cons_ne_self, and_false, false_or, beq_iff_eq, Option.some.injEq]
    constructor
    · rintro ⟨q, hq⟩
      have := List.append_inj_right' hq rfl
      simp at this
      exact this.symm
    · rintro rfl
      exact ⟨l', rfl⟩
theorem ends_nil : endsS [] = true := rfl
theorem ends_at (s : ByteArray) (h : s.size - 1 < s.size) : endsS s.data.toList = ((s[s.size - 1].toNat : Int) == 10) := by
  have hlast : s.data.toList.getLast? = some s[s.size - 1] := by
    rw [List.getLast?_eq_getElem?]
    have e : s.data.toList.length - 1 = s.size - 1 := by simp
    rw [e, Array.getElem?_toList]
    exact Array.getElem?_eq_getElem h
  have hne : s.data.toList.isEmpty = false := by
    cases hl : s.data.toList with
    | nil => rw [hl] at hlast; cases hlast
    | cons a l => rfl
  rw [endsS, hne, hlast, Bool.false_or, Bool.eq_iff_iff]
  simp only [beq_iff_eq, Option.some.injEq]
  constructor
  · intro e; rw [e]; rfl
  · intro e
    apply UInt8.toNat_inj.1
    have : (10 : UInt8).toNat = 10 := rfl
    omega
def checkResultS (r : ResultV) : Int :=
  if (withinB r.code 0 999999 && withinB r.command 0 50) = false then 1
  else if 100000 < (r.text.size : Int) then 2
  else if isTextS r.text = false then 3
  else if checkFilesS r.files ≠ 0 then checkFilesS r.files
  else if (!r.files.isEmpty && r.code != 0) = true then 3
  else checkLooksS r.looks

/-! ### The text of a result -/
def signB (r : Bool) : List UInt8 := if r then [120] else [45]
def digestOr (d : ByteArray) : List UInt8 := if d.data.toList.isEmpty then [45] else d.data.toList
def lookLineS (x : Look) : List UInt8 := [108, 111, 111, 107, 32] ++ x.path.data.toList ++ [32] ++ digestOr x.digest ++ [32] ++ signB x.run ++ [10]
def fileHeadS (x : FileV) : List UInt8 := [102, 105, 108, 101, 32] ++ x.path.data.toList ++ [32] ++ signB x.run ++ [32] ++ Lib.itoa x.bytes.length ++ [10]
def fileTextS (x : FileV) : List UInt8 := fileHeadS x ++ x.bytes ++ [10]
def headTextS (r : ResultV) : List UInt8 := [99, 111, 100, 101, 32] ++ Lib.itoa r.code ++ [32] ++ Lib.itoa r.command ++ [10, 116, 101, 120, 116, 32] ++ Lib.itoa r.text.size ++ [10] ++ r.text.data.toList
def resultTextL (r : ResultV) : List UInt8 := headTextS r ++ r.files.flatMap fileTextS ++ r.looks.flatMap lookLineS
def resultTextErr (r : ResultV) : Int := if checkResultS r ≠ 0 then checkResultS r else if 4000000 < ((resultTextL r).length : Int) then 2 else 0
def resultTextS (r : ResultV) : ByteArray := if resultTextErr r = 0 then ⟨(resultTextL r).toArray⟩ else ⟨#[]⟩
end Go.Proofs.Sm

namespace Go.Proofs.Sm
open Go.RowKit

/-- the package-level variables, the table of powers of ten among them -/
structure Env2 (w : World) : Prop extends Env w where
  pow : Lib.TabIs Tryz.prog w "internal/strconv.uint64pow10" .u64 Lib.pow10Tab
theorem Env2.of_heap {w w' : World} (h : Env2 w) (hs : w.heap.size ≤ w'.heap.size) (hk : ∀ k, k < 8 → w'.heap[k]? = w.heap[k]?) : Env2 w' where
  toEnv := h.toEnv.of_heap hs hk
  pow := by
    have hg : Tryz.prog.globalNamed "internal/strconv.uint64pow10" = some 5 := by kernel_rfl
    have h1 := h.pow
    unfold Lib.TabIs World.var? at *
    rw [hg] at *
    simp only [Option.bind_some] at *
    rw [hk 5 (by decide)]
    exact h1
theorem Env2.then_ {w w' : World} (h : Env2 w) (hb : Below w.heap.size w w') : Env2 w' := h.of_heap hb.size fun k hk => hb.block k (Nat.lt_of_lt_of_le hk h.size)
theorem Env2.alloc {w : World} (h : Env2 w) (o : Obj) : Env2 (w.alloc o) := h.then_ ((Below.refl _ _).alloc (Nat.le_refl _) o)

theorem untold_pays (w : World) : PredGrows Tryz.prog 104 #[] untold w := by
  intro W x hx _
  show Calls Tryz.prog 104 #[.int .i32 (x : Int)] W _
  go_enter Tryz.func104, Tryz.ntmps104
  go_wp2
  all_goals (go_ret; refine ⟨ret_bool ?_, Below.refl _ _⟩; rw [Bool.eq_iff_iff]; simp [untold, textI] <;> omega)
theorem told_any (s : ByteArray) (w : World) : Calls Tryz.prog 103 #[.string s, .func (.func 104) #[] #[]] w fun e w' => e = .returned (.bool (!(s.data.toList.all textB))) ∧ Below w.heap.size w w' :=
  (Tryz.strings_ContainsFunc_grows 104 #[] (enters_of Tryz.func104 (by kernel_rfl) rfl) untold s w (untold_pays w)).mono fun _ _ h => ⟨by rw [h.1, untold_any], h.2⟩

end Go.Proofs.Sm

namespace Go.Proofs.Sm
open Go.RowKit

theorem hasSuffix_any (s : ByteArray) (w : World) (hs : s.size ≤ maxLen) (h0 : s.toList.isEmpty = false) : Calls Tryz.prog 105 #[.string s, .string ⟨#[10]⟩] w fun e w' => e = .returned (.bool (endsS s.data.toList)) ∧ w = w' :=
  (Tryz.strings_HasSuffix s ⟨#[10]⟩ w hs).mono fun _ _ h => ⟨by rw [h.1]; congr 2; exact ends_suffix _ (by rw [Lib.toList_data] at h0; simpa using h0), h.2.symm⟩
/-- the fields of a result -/
def resVal (r : ResultV) (A : Option Addr) (n c : Nat) (B : Option Addr) (m d : Nat) : Value := .agg #[.int .i64 r.code, .string r.text, .slice A n c, .slice B m d, .int .i64 r.command]
structure ResIs (w : World) (r : ResultV) (A : Option Addr) (n : Nat) (B : Option Addr) (m : Nat) : Prop where
  code : InInt r.code
  text : r.text.size ≤ maxLen
  files : Sl w (Lt w.heap.size) A n r.files
  looks : Sl w (Lt w.heap.size) B m r.looks
  command : InInt r.command
theorem ResIs.then_ {w w' : World} {r : ResultV} {A : Option Addr} {n : Nat} {B : Option Addr} {m : Nat} (h : ResIs w r A n B m) (hb : Below w.heap.size w w') : ResIs w' r A n B m :=
  ⟨h.code, h.text, sl_call h.files hb (Nat.le_refl _), sl_call h.looks hb (Nat.le_refl _), h.command⟩
theorem checkResult_range {r : ResultV} (h : (withinB r.code 0 999999 && withinB r.command 0 50) = false) : checkResultS r = 1 := by rw [checkResultS, if_pos h]
theorem checkResult_large {r : ResultV} (h : (withinB r.code 0 999999 && withinB r.command 0 50) = true) (h1 : (100000 : Int) < r.text.size) : checkResultS r = 2 := by
  rw [checkResultS, if_neg (by rw [h]; decide), if_pos h1]
theorem checkResult_text {r : ResultV} (h : (withinB r.code 0 999999 && withinB r.command 0 50) = true) (h1 : ¬ (100000 : Int) < r.text.size) (h2 : isTextS r.text = false) : checkResultS r = 3 := by
  rw [checkResultS, if_neg (by rw [h]; decide), if_neg h1, if_pos h2]
theorem checkResult_files {r : ResultV} (h : (withinB r.code 0 999999 && withinB r.command 0 50) = true) (h1 : ¬ (100000 : Int) < r.text.size) (h2 : isTextS r.text = true) (h3 : checkFilesS r.files ≠ 0) : checkResultS r = checkFilesS r.files := by
  rw [checkResultS, if_neg (by rw [h]; decide), if_neg h1, if_neg (by rw [h2]; decide), if_pos h3]
theorem checkResult_code {r : ResultV} (h : (withinB r.code 0 999999 && withinB r.command 0 50) = true) (h1 : ¬ (100000 : Int) < r.text.size) (h2 : isTextS r.text = true) (h3 : checkFilesS r.files = 0) :
    checkResultS r = if (!r.files.isEmpty && r.code != 0) = true then 3 else checkLooksS r.looks := by
  rw [checkResultS, if_neg (by rw [h]; decide), if_neg h1, if_neg (by rw [h2]; decide), if_neg (by rw [h3]; decide)]
theorem files_none {w : World} {S : Nat → Prop} {A : Option Addr} {n : Nat} {l : List FileV} (h : Sl w S A n l) : l.isEmpty = decide (n = 0) := by
  rw [← h.1]
  cases l <;> simp

set_option maxHeartbeats 1000000 in
set_option maxRecDepth 100000 in
theorem act_CheckResult (r : ResultV) (A : Option Addr) (n c : Nat) (B : Option Addr) (m d : Nat) (w : World) (hE : Env w) (hr : ResIs w r A n B m) :
    Calls Tryz.prog 78 #[resVal r A n c B m d] w fun e w' => e = .returned (.int .i64 (checkResultS r)) ∧ Below w.heap.size w w' := by
  unfold resVal
  have hm : n ≤ 9223372036854775807 := hr.files.2.1
  cases h0 : (withinB r.code 0 999999 && withinB r.command 0 50)
  · have HV := Lib.hid (checkResult_range h0)
    have h1 : r.code < 0 ∨ 999999 < r.code ∨ r.command < 0 ∨ 50 < r.command := by simp [withinB] at h0; omega
    clear h0
    go_enter Tryz.func78, Tryz.ntmps78
    go_wp2
    all_goals first
      | (exfalso; omega)
      | (go_ret; exact ⟨ret_int HV.out.symm, fr_alloc (fr_refl _) _⟩)
  · have hq : 0 ≤ r.code ∧ r.code ≤ 999999 ∧ 0 ≤ r.command ∧ r.command ≤ 50 := by simp [withinB] at h0; omega
    obtain ⟨q1, q2, q3, q4⟩ := hq
    have H0 := Lib.hid h0; clear h0
    by_cases hl : (100000 : Int) < r.text.size
    · have HV := Lib.hid (checkResult_large H0.out hl)
      go_enter Tryz.func78, Tryz.ntmps78
      go_wp2
      go_ret; exact ⟨ret_int HV.out.symm, fr_alloc (fr_refl _) _⟩
    cases ht : isTextS r.text
    · have HV := Lib.hid (checkResult_text H0.out hl ht)
      cases ha : r.text.data.toList.all textB
      · clear ht
        go_enter Tryz.func78, Tryz.ntmps78
        go_wp2_with (first
        | (go_at_call 103; refine (told_any _ _).mono ?_; rintro e w1 ⟨rfl, hb1⟩; obtain ⟨hc1, hf1⟩ := bcell hb1; have hz1 := grew hb1)
        | (go_at_call 105; refine (hasSuffix_any _ _ hr.text (by assumption)).mono ?_; rintro e w1' ⟨rfl, rfl⟩))
        go_ret; exact ⟨ret_int HV.out.symm, (by repeat (first | exact fr_refl _ | refine fr_call ?_ (by assumption) | refine fr_alloc ?_ _ | refine fr_set ?_ (by simp) _ | refine Below.drew ?_ | refine below_drewN ?_ _))⟩
      · have he : endsS r.text.data.toList = false := by rw [isTextS, ha] at ht; exact ht
        have hn : r.text.toList.isEmpty = false := by
          cases hn : r.text.toList.isEmpty
          · rfl
          · rw [Lib.toList_data, List.isEmpty_iff] at hn
            rw [hn] at he; cases he
        clear ht
        go_enter Tryz.func78, Tryz.ntmps78
        go_wp2_with (first
        | (go_at_call 103; refine (told_any _ _).mono ?_; rintro e w1 ⟨rfl, hb1⟩; obtain ⟨hc1, hf1⟩ := bcell hb1; have hz1 := grew hb1)
        | (go_at_call 105; refine (hasSuffix_any _ _ hr.text (by assumption)).mono ?_; rintro e w1' ⟨rfl, rfl⟩))
        go_ret; exact ⟨ret_int HV.out.symm, (by repeat (first | exact fr_refl _ | refine fr_call ?_ (by assumption) | refine fr_alloc ?_ _ | refine fr_set ?_ (by simp) _ | refine Below.drew ?_ | refine below_drewN ?_ _))⟩
    · have HT := Lib.hid ht
      have ha : r.text.data.toList.all textB = true := by rw [isTextS] at ht; exact (Bool.and_eq_true_iff.1 ht).1
      have he : endsS r.text.data.toList = true := by rw [isTextS] at ht; exact (Bool.and_eq_true_iff.1 ht).2
      clear ht
      cases hn : r.text.toList.isEmpty
      all_goals
        go_enter Tryz.func78, Tryz.ntmps78
        go_wp2_with (first
        | (go_at_call 103; refine (told_any _ _).mono ?_; rintro e w1 ⟨rfl, hb1⟩; obtain ⟨hc1, hf1⟩ := bcell hb1; have hz1 := grew hb1)
        | (go_at_call 105; refine (hasSuffix_any _ _ hr.text (by assumption)).mono ?_; rintro e w1' ⟨rfl, rfl⟩))
        refine (blob_CheckFiles A n c r.files _ (hE.then_ (by repeat (first | exact fr_refl _ | refine fr_call ?_ (by assumption) | refine fr_alloc ?_ _ | refine fr_set ?_ (by simp) _ | refine Below.drew ?_ | refine below_drewN ?_ _))) (sl_call hr.files (by repeat (first | exact fr_refl _ | refine fr_call ?_ (by assumption) | refine fr_alloc ?_ _ | refine fr_set ?_ (by simp) _ | refine Below.drew ?_ | refine below_drewN ?_ _)) (Nat.le_refl _))).mono ?_
        rintro e w2 ⟨rfl, hb2⟩
        clear ha he hn
        obtain ⟨hc2, hf2⟩ := bcell hb2
        have hz2 := hb2.size
        cases h0 : (checkFilesS r.files == 0)
        · have hne : checkFilesS r.files ≠ 0 := by simpa using h0
          have hbn : (checkFilesS r.files != 0) = true := by simpa using h0
          have HV := Lib.hid (checkResult_files H0.out (Int.not_lt.2 hl) HT.out hne)
          clear hne
          go_wp2
          go_ret; exact ⟨ret_int HV.out.symm, (by repeat (first | exact fr_refl _ | refine fr_call ?_ (by assumption) | refine fr_alloc ?_ _ | refine fr_set ?_ (by simp) _ | refine Below.drew ?_ | refine below_drewN ?_ _))⟩
        · have hz : checkFilesS r.files = 0 := by simpa using h0
          have hbn : (checkFilesS r.files != 0) = false := by simpa using h0
          have HV := Lib.hid (checkResult_code H0.out (Int.not_lt.2 hl) HT.out hz)
          have HN := Lib.hid (files_none hr.files)
          clear hz
          have hE3 : Env w2 := hE.then_ (by repeat (first | exact fr_refl _ | refine fr_call ?_ (by assumption) | refine fr_alloc ?_ _ | refine fr_set ?_ (by simp) _ | refine Below.drew ?_ | refine below_drewN ?_ _))
          by_cases hn0 : (0 : Int) < n
          · have hg : decide ((0 : Int) < (n : Int)) = true := by simpa using hn0
            cases hk : (r.code == 0)
            · have hk' : (r.code != 0) = true := by simpa using hk
              have HW := Lib.hid (show checkResultS r = 3 by rw [HV.out, HN.out, hk', decide_eq_false (by omega)]; rfl)
              go_wp2
              go_ret; exact ⟨ret_int HW.out.symm, (by repeat (first | exact fr_refl _ | refine fr_call ?_ (by assumption) | refine fr_alloc ?_ _ | refine fr_set ?_ (by simp) _ | refine Below.drew ?_ | refine below_drewN ?_ _))⟩
            · have hk' : (r.code != 0) = false := by simpa using hk
              have HW := Lib.hid (show checkResultS r = checkLooksS r.looks by rw [HV.out, HN.out, hk', Bool.and_false]; rfl)
              go_wp2_with fail
              refine (act_CheckLooks B m d r.looks _ hE3 (sl_call hr.looks (by repeat (first | exact fr_refl _ | refine fr_call ?_ (by assumption) | refine fr_alloc ?_ _ | refine fr_set ?_ (by simp) _ | refine Below.drew ?_ | refine below_drewN ?_ _)) (Nat.le_refl _))).mono ?_
              rintro e w3 ⟨rfl, hb3⟩
              go_wp2
              go_ret; exact ⟨ret_int HW.out.symm, (by repeat (first | exact fr_refl _ | refine fr_call ?_ (by assumption) | refine fr_alloc ?_ _ | refine fr_set ?_ (by simp) _ | refine Below.drew ?_ | refine below_drewN ?_ _))⟩
          · have hg : decide ((0 : Int) < (n : Int)) = false := by simpa using hn0
            have HW := Lib.hid (show checkResultS r = checkLooksS r.looks by rw [HV.out, HN.out, decide_eq_true (by omega)]; rfl)
            go_wp2_with fail
            refine (act_CheckLooks B m d r.looks _ hE3 (sl_call hr.looks (by repeat (first | exact fr_refl _ | refine fr_call ?_ (by assumption) | refine fr_alloc ?_ _ | refine fr_set ?_ (by simp) _ | refine Below.drew ?_ | refine below_drewN ?_ _)) (Nat.le_refl _))).mono ?_
            rintro e w3 ⟨rfl, hb3⟩
            go_wp2
            go_ret; exact ⟨ret_int HW.out.symm, (by repeat (first | exact fr_refl _ | refine fr_call ?_ (by assumption) | refine fr_alloc ?_ _ | refine fr_set ?_ (by simp) _ | refine Below.drew ?_ | refine below_drewN ?_ _))⟩
theorem ref5_within (n lo hi : Int) (w : World) : Calls Tryz.prog 90 #[.int .i64 n, .int .i64 lo, .int .i64 hi] w fun e w' => e = .returned (.bool (withinB n lo hi)) ∧ w = w' := by
  go_enter Tryz.func90, Tryz.ntmps90
  go_wp2
  all_goals (go_ret; exact ⟨ret_bool (by simp [withinB]; omega), rfl⟩)
end Go.Proofs.Sm

namespace Go.Proofs.Sm
open Go.RowKit

theorem bytes_ext {a b : ByteArray} (h : a.data.toList = b.data.toList) : a = b := by
  obtain ⟨⟨x⟩⟩ := a
  obtain ⟨⟨y⟩⟩ := b
  simp at h
  rw [h]
theorem ret_str {a : ByteArray} {l : List UInt8} (h : a.data.toList = l) : Ending.returned (.string a) = .returned (.string ⟨l.toArray⟩) := by
  subst h; rfl
theorem itoa_any (n : Int) (hn : InInt n) (w : World) (hE : Env2 w) : Calls Tryz.prog 220 #[.int .i64 n] w fun e w' => e = .returned (.string ⟨(Lib.itoa n).toArray⟩) ∧ Below w.heap.size w w' :=
  (Tryz.strconv_Itoa n hn.1 hn.2 w hE.pow).mono fun e w' ⟨h1, k, os, h2⟩ => ⟨h1, by rw [h2]; exact Lib.below_grow _ _ (Nat.le_refl _) _ _⟩
/-- a number written, its text a name -/
theorem itoa_op (n : Int) (hn : InInt n) : ∃ s : ByteArray, s.size ≤ 21 ∧ Hid (s.data.toList = Lib.itoa n) ∧ Hid (∀ w, Env2 w → Calls Tryz.prog 220 #[.int .i64 n] w fun e w' => e = .returned (.string s) ∧ Below w.heap.size w w') :=
  ⟨⟨(Lib.itoa n).toArray⟩, by have := Lib.itoa_length_le n hn.1 hn.2; simpa [ByteArray.size] using this, Lib.hid (by simp), Lib.hid fun w hE => itoa_any n hn w hE⟩
/-- a sum of strings, its value a name -/
theorem cat_op (a b : ByteArray) (h : a.size + b.size ≤ 9223372036854775807) : ∃ s : ByteArray, s.size ≤ a.size + b.size ∧ Hid (s.data.toList = a.data.toList ++ b.data.toList) ∧ ∀ w, (Op.stringOp .add a b).run Tryz.prog w = .ok (.string s) w :=
  ⟨a ++ b, by simp, Lib.hid (by simp), fun w => run_string_add_sum (P := Tryz.prog) (w := w) a b h⟩
theorem signB_length (r : Bool) : (signB r).length = 1 := by cases r <;> rfl
theorem sign_size (r : Bool) : (⟨(signB r).toArray⟩ : ByteArray).size ≤ 1 := by have := signB_length r; simpa [ByteArray.size] using Nat.le_of_eq this
end Go.Proofs.Sm

namespace Go.Proofs.Sm
open Go.RowKit Go.ChangeShapes Go.WideShapes Go.ChangeAt

section
variable {H : Type} {enc : TypeId × Value → H} {w : World} {base : Nat} {spare : Nat → Bool} {held : Bool}
theorem five_of {α : Type} {l : List α} (h : l.length = 5) : ∃ a b c d e, l = [a, b, c, d, e] := by
  rcases l with _ | ⟨a, _ | ⟨b, _ | ⟨c, _ | ⟨d, _ | ⟨e, _ | ⟨f, r⟩⟩⟩⟩⟩⟩
  all_goals (try (simp at h; done))
  exact ⟨a, b, c, d, e, rfl⟩
theorem result_of {cs : List Value} {fuel : Nat} {d : DataW H × List MemPlace} (h : DataW.trod enc Tryz.prog w base spare held fuel 57 cs = some d) :
    ∃ r A n c B m e, ResIs w r A n B m ∧ cs = [.int .i64 r.code, .string r.text, .slice A n c, .slice B m e, .int .i64 r.command] := by
  obtain ⟨xs, n, _, _, hlen, hxl, hf⟩ := DataW.trod_struct Tryz.underlying57 h
  have hc : Tryz.prog.cellsOf 57 = 5 := by kernel_rfl
  have cI : Tryz.prog.cellsOf 3 = 1 := by kernel_rfl
  have cS : Tryz.prog.cellsOf 9 = 1 := by kernel_rfl
  have cF : Tryz.prog.cellsOf 55 = 1 := by kernel_rfl
  have cL : Tryz.prog.cellsOf 54 = 1 := by kernel_rfl
  rw [hc] at hlen
  have hxl' : xs.length = 5 := hxl
  obtain ⟨a0, a1, a2, a3, a4, rfl⟩ := five_of hlen
  obtain ⟨y0, e0⟩ := at_some hxl' (show 0 < 5 by decide)
  obtain ⟨y1, e1⟩ := at_some hxl' (show 1 < 5 by decide)
  obtain ⟨y2, e2⟩ := at_some hxl' (show 2 < 5 by decide)
  obtain ⟨y3, e3⟩ := at_some hxl' (show 3 < 5 by decide)
  obtain ⟨y4, e4⟩ := at_some hxl' (show 4 < 5 by decide)
  have f0 : DataW.trod enc Tryz.prog w base spare held n 3 [a0] = some y0 := by
    have h := (hf 0 _ rfl).trans e0
    change DataW.trod enc _ w base spare held n 3 (List.take (Tryz.prog.cellsOf 3) (List.drop 0 [a0, a1, a2, a3, a4])) = some y0 at h
    rw [cI] at h
    exact h
  have f1 : DataW.trod enc Tryz.prog w base spare held n 9 [a1] = some y1 := by
    have h := (hf 1 _ rfl).trans e1
    change DataW.trod enc _ w base spare held n 9 (List.take (Tryz.prog.cellsOf 9) (List.drop 1 [a0, a1, a2, a3, a4])) = some y1 at h
    rw [cS] at h
    exact h
  have f2 : DataW.trod enc Tryz.prog w base spare held n 55 [a2] = some y2 := by
    have h := (hf 2 _ rfl).trans e2
    change DataW.trod enc _ w base spare held n 55 (List.take (Tryz.prog.cellsOf 55) (List.drop 2 [a0, a1, a2, a3, a4])) = some y2 at h
    rw [cF] at h
    exact h
  have f3 : DataW.trod enc Tryz.prog w base spare held n 54 [a3] = some y3 := by
    have h := (hf 3 _ rfl).trans e3
    change DataW.trod enc _ w base spare held n 54 (List.take (Tryz.prog.cellsOf 54) (List.drop 3 [a0, a1, a2, a3, a4])) = some y3 at h
    rw [cL] at h
    exact h
  have f4 : DataW.trod enc Tryz.prog w base spare held n 3 [a4] = some y4 := by
    have h := (hf 4 _ rfl).trans e4
    change DataW.trod enc _ w base spare held n 3 (List.take (Tryz.prog.cellsOf 3) (List.drop 4 [a0, a1, a2, a3, a4])) = some y4 at h
    rw [cI] at h
    exact h
  obtain ⟨n0, r0, z0⟩ := dec_int Tryz.underlying3 _ _ _ f0
  obtain ⟨s1, r1, z1⟩ := dec_string Tryz.underlying9 _ _ _ f1
  obtain ⟨l2, A, k2, c2, r2, _, _, z2⟩ := dec_files _ _ _ f2
  obtain ⟨l3, B, k3, c3, r3, _, _, z3⟩ := dec_looks _ _ _ f3
  obtain ⟨n4, r4, z4⟩ := dec_int Tryz.underlying3 _ _ _ f4
  cases r0; cases r1; cases r2; cases r3; cases r4
  exact ⟨⟨n0, s1, l2, l3, n4⟩, A, k2, c2, B, k3, c3, ⟨z0, z1, z2, z3, z4⟩, rfl⟩
end
theorem tab_of_reads {W : World} {name : String} {k : IntKind} {zs : List Int} {g : Nat} {t e : TypeId} {n : Nat} (hg : Tryz.prog.globalNamed name = some g) (hty : (Tryz.prog.globals[g]?).map (·.type) = some t)
    (ht : Tryz.prog.underlying t = some (.array n e)) (he : Tryz.prog.underlying e = some (.int k)) (hce : Tryz.prog.cellsOf e = 1) (hct : Tryz.prog.cellsOf t = n) (h : Lib.VarReads Tryz.prog W name (Lib.tabData k zs)) : Lib.TabIs Tryz.prog W name k zs := by
  obtain ⟨g', t', cs, fuel, p, hg', ht', hvar, hd⟩ := h
  obtain rfl := Option.some.inj (hg.symm.trans hg')
  obtain rfl := Option.some.inj (hty.symm.trans ht')
  unfold Lib.TabIs
  rw [hvar, ← Lib.cells_of_tab ht he hce hct hd]
theorem pow_laid : YtogjdgpghpkgmaaGreatDoor.Rows.laid_internal_strconv_uint64pow10 = Lib.tabData (H := Unit) .u64 Lib.pow10Tab := by kernel_rfl
theorem env2_of {laid : List (String × DataW Unit)} {W : World} (hL : laidMet Tryz.prog laid W) (hS : W.ShapedOpen Tryz.prog) (h3 : ("unicode/utf8.first", Go.Pinned.utf8First) ∈ laid) (h4 : ("unicode/utf8.acceptRanges", YtogjdgpghpkgmaaGreatDoor.Rows.laid_unicode_utf8_acceptRanges) ∈ laid)
    (h5 : ("internal/strconv.uint64pow10", YtogjdgpghpkgmaaGreatDoor.Rows.laid_internal_strconv_uint64pow10) ∈ laid) : Env2 W where
  toEnv := env_of hL hS h3 h4
  pow := tab_of_reads (g := 5) (t := 239) (e := 145) (n := 20) (by kernel_rfl) (by kernel_rfl) Tryz.underlying239 Tryz.underlying145 (by kernel_rfl) (by kernel_rfl) (by have := Lib.laidMet.reads hL h5; rwa [pow_laid] at this)
/-- the cells of plain data -/
def flatD : Nat → DataW Unit → List Value
  | 0, _ => []
  | _ + 1, .lit (.int k n) => [.int k n]
  | f + 1, .agg l => l.flatMap (flatD f)
  | _, _ => []
/-- THE WITNESS's WORLD: the settled one, with plain tables laid. -/
noncomputable def tableWorld (os : Os) (tabs : List (Nat × DataW Unit)) : World :=
  let w0 := World.holding Tryz.prog os ⟨#[], #[], []⟩
  { w0 with heap := tabs.foldl (fun h t => h.modify t.1 fun
    | .cells _ ty frozen => .cells (flatD 4 t.2).toArray ty frozen
    | o => o) w0.heap }
end Go.Proofs.Sm
