/- From the form's own readings to ours: results; the table of powers of ten; a world that lays plain tables. -/
import Derived.Test.YtadokhhgljddkaaGreatDoorH19x12
import Derived.StillTailTactics
import Derived.Test.YtadokhhgljddkaaGreatDoorH19x2
import Derived.Test.YtadokhhgljddkaaGreatDoorCards
import Derived.Test.YtadokhhgljddkaaGreatDoorTie
import Derived.OpenShut
import Derived.ShutString
import Derived.ChangeOld
import Derived.Deep.DeepHandedRow
import Derived.Deep.DeepWitnessRowRef
import Derived.Lib.LaidU8
import Derived.Lib.LaidTab
import Derived.Test.YtadokhhgljddkaaGreatDoorH19x3
import Derived.Lib.LaidIn
namespace Go.Proofs.Sm
open Go.RowKit

/-- is a rule hit: by an input, or by one that it needs -/
def hitOne (l : List RuleV) (ws : List ByteArray) (s : List Bool) (k : Nat) : Bool := ((insAt l k).any fun p => hasB ws p) || (needAt (needsS l) k).any fun j => isOf s j
def hitsS (l : List RuleV) (ws : List ByteArray) (out : List Nat) : List Bool := out.foldl (fun s k => s.set k (hitOne l ws s k)) (List.replicate l.length false)
theorem hits_start (l : List RuleV) (ws : List ByteArray) : hitsS l ws [] = List.replicate l.length false := rfl
theorem hits_snoc (l : List RuleV) (ws : List ByteArray) (out : List Nat) (k : Nat) : hitsS l ws (out ++ [k]) = (hitsS l ws out).set k (hitOne l ws (hitsS l ws out) k) := by rw [hitsS, hitsS, List.foldl_append]; rfl
theorem hits_more {l : List RuleV} {ws : List ByteArray} {out : List Nat} {t k : Nat} (h : out[t]? = some k) : hitsS l ws (out.take (t + 1)) = (hitsS l ws (out.take t)).set k (hitOne l ws (hitsS l ws (out.take t)) k) := by
  rw [List.take_add_one, h]
  exact hits_snoc _ _ _ _
theorem foldl_length (f : List Bool → Nat → Bool) : ∀ (out : List Nat) (s : List Bool), (out.foldl (fun s k => s.set k (f s k)) s).length = s.length
  | [], _ => rfl
  | k :: r, s => by
    rw [List.foldl_cons, foldl_length f r, List.length_set]
theorem hits_length (l : List RuleV) (ws : List ByteArray) (out : List Nat) : (hitsS l ws out).length = l.length := by
  rw [hitsS, foldl_length (hitOne l ws)]; simp
theorem foldl_off (f : List Bool → Nat → Bool) {i : Nat} : ∀ (out : List Nat) (s : List Bool), i ∉ out → (out.foldl (fun s k => s.set k (f s k)) s)[i]? = s[i]?
  | [], _, _ => rfl
  | k :: r, s, h => by
    rw [List.foldl_cons, foldl_off f r _ fun hm => h (by simp [hm]), List.getElem?_set_ne fun e => h (by simp [e])]
/-- before its turn a rule is not hit -/
theorem hits_off {l : List RuleV} {ws : List ByteArray} {out : List Nat} {i : Nat} (hi : i < l.length) (h : i ∉ out) : (hitsS l ws out)[i]? = some false := by
  rw [hitsS, foldl_off (hitOne l ws) _ _ h, List.getElem?_replicate, if_pos hi]
/-- the names of those hit, of the first i -/
def hitNames (l : List RuleV) (s : List Bool) (i : Nat) : List ByteArray := namesAt l ((List.range i).filter (isOf s))
theorem hitNames_yes {l : List RuleV} {s : List Bool} {i : Nat} {x : RuleV} (h : s[i]? = some true) (hx : l[i]? = some x) : hitNames l s (i + 1) = hitNames l s i ++ [x.name] := by
  rw [hitNames, List.range_succ, List.filter_append, namesAt, List.map_append, ← nameAt_some hx]
  simp [isOf, h, hitNames, namesAt]
theorem hitNames_no {l : List RuleV} {s : List Bool} {i : Nat} (h : s[i]? = some false) : hitNames l s (i + 1) = hitNames l s i := by
  rw [hitNames, List.range_succ, List.filter_append]
  simp [isOf, h, hitNames]
theorem hitNames_le (l : List RuleV) (s : List Bool) (i : Nat) : (hitNames l s i).length ≤ i := by
  rw [hitNames, namesAt, List.length_map]
  have := List.length_filter_le (isOf s) (List.range i)
  simpa using this
/-- what stands against the question -/
def suspErr (l : List RuleV) (ws : List ByteArray) : Int := if checkRulesS l ≠ 0 then checkRulesS l else if 1000 < (ws.length : Int) then 2 else if ws.any (fun p => !isPathS p) then 3 else 0
/-- the rules of which each may be run again -/
def suspS (l : List RuleV) (ws : List ByteArray) : List ByteArray := hitNames l (hitsS l ws (orderS (needsS l) allTrue).1) l.length
theorem susp_bad {l : List RuleV} {ws : List ByteArray} (h : checkRulesS l ≠ 0) : suspErr l ws = checkRulesS l := by rw [suspErr, if_pos h]
theorem susp_large {l : List RuleV} {ws : List ByteArray} (h : checkRulesS l = 0) (h1 : (1000 : Int) < (ws.length : Int)) : suspErr l ws = 2 := by rw [suspErr, if_neg (by simp [h]), if_pos h1]
theorem susp_form {l : List RuleV} {ws : List ByteArray} {p : ByteArray} (h : checkRulesS l = 0) (h1 : ¬ (1000 : Int) < (ws.length : Int)) (hp : p ∈ ws) (h2 : isPathS p = false) : suspErr l ws = 3 := by
  rw [suspErr, if_neg (by simp [h]), if_neg h1, if_pos (List.any_eq_true.2 ⟨p, hp, by rw [h2]; rfl⟩)]
theorem susp_ok {l : List RuleV} {ws : List ByteArray} (h : checkRulesS l = 0) (h1 : ¬ (1000 : Int) < (ws.length : Int)) (h2 : ws.any (fun p => !isPathS p) = false) : suspErr l ws = 0 := by
  rw [suspErr, if_neg (by simp [h]), if_neg h1, if_neg (by rw [h2]; simp)]
def SuspPost (l : List RuleV) (ws : List ByteArray) (w : World) (e : Ending) (w' : World) : Prop :=
  ∃ v, e = .returned (.tuple #[v, .int .i64 (suspErr l ws)]) ∧ (suspErr l ws ≠ 0 → v = .slice none 0 0) ∧ (suspErr l ws = 0 → RowK w' w.heap.size 9 (fun _ => False) v (suspS l ws)) ∧ Below w.heap.size w w'
theorem SuspPost.bad {l : List RuleV} {ws : List ByteArray} {w w' : World} {f : Int} (hf : suspErr l ws = f) (h0 : f ≠ 0) (hb : Below w.heap.size w w') : SuspPost l ws w (.returned (.tuple #[.slice none 0 0, .int .i64 f])) w' :=
  ⟨_, by rw [hf], fun _ => rfl, fun h => absurd (hf.symm.trans h) h0, hb⟩
theorem SuspPost.good {l : List RuleV} {ws : List ByteArray} {w w' : World} {v : Value} (hf : suspErr l ws = 0) (hr : RowK w' w.heap.size 9 (fun _ => False) v (suspS l ws)) (hb : Below w.heap.size w w') : SuspPost l ws w (.returned (.tuple #[v, .int .i64 0])) w' :=
  ⟨_, by rw [hf], fun h => absurd hf h, fun _ => hr, hb⟩

/-! ### Rows are searched, and nothing is written -/
set_option maxRecDepth 100000 in
theorem indexFuncS (g : Nat) (eg : ∀ args w, (callFunc g args).run Tryz.prog w = .ok (.enter g args) w) (v : Value) (p : ByteArray → Bool) (A : Option Addr) (n c : Nat) (l : List ByteArray) (w : World) (hsl : Sl w (Lt w.heap.size) A n l)
    (hp : ∀ x, x.size ≤ maxLen → x ∈ l → Calls Tryz.prog g #[.string x, v] w fun e w' => e = .returned (.bool (p x)) ∧ w = w') :
    Calls Tryz.prog 50 #[.slice A n c, .func (.func g) #[] #[v]] w fun e w' => ∃ r : Int, e = .returned (.int .i64 r) ∧ decide (0 ≤ r) = l.any p ∧ w = w' := by
  go_enter Tryz.func50, Tryz.ntmps50
  have hm : n ≤ 9223372036854775807 := hsl.2.1
  have HP := Lib.hid hp; clear hp
  go_wp2
  go_loop [5, 8] (fun _ i => ∃ k : Nat, k ≤ n ∧ i = .int .i64 k ∧ (l.take k).any p = false) (fun _ i => n - (intOf i).toNat)
  case atStart => exact ⟨0, Nat.zero_le _, rfl, rfl⟩
  case round =>
    obtain ⟨k, hk, rfl, hall⟩ := hrel
    have H := Lib.hid hall; clear hall
    by_cases hlt : k < n
    · first | obtain ⟨b, o, x, rfl, hb, hx, hxs, c0⟩ := hsl.str hlt | obtain ⟨b, o, x, rfl, hb, hx, hxs, c0⟩ := hsl.nat hlt
      have Hx := Lib.hid hx; clear hx
      cases hq : p x
      · have HS := Lib.hid (any_step (p := p) Hx.out H.out hq)
        go_wp2_with fail
        refine (HP.out x hxs (List.mem_of_getElem? Hx.out)).mono ?_
        rintro e w1 ⟨rfl, rfl⟩
        rw [hq]
        go_wp2
        go_round
        case rel => exact ⟨k + 1, by omega, by go_num, HS.out⟩
        case measure => simp [intOf]; omega
      · have HS := Lib.hid (any_yes (p := p) Hx.out hq)
        go_wp2_with fail
        refine (HP.out x hxs (List.mem_of_getElem? Hx.out)).mono ?_
        rintro e w1 ⟨rfl, rfl⟩
        rw [hq]
        go_wp2
        go_ret
        exact ⟨k, rfl, by rw [HS.out]; simp, rfl⟩
    · have HS := Lib.hid (any_end (by rw [hsl.1]; omega) H.out)
      go_wp2
      go_ret
      exact ⟨-1, rfl, by rw [HS.out]; rfl, rfl⟩
theorem containsFuncS (g : Nat) (eg : ∀ args w, (callFunc g args).run Tryz.prog w = .ok (.enter g args) w) (v : Value) (p : ByteArray → Bool) (A : Option Addr) (n c : Nat) (l : List ByteArray) (w : World) (hsl : Sl w (Lt w.heap.size) A n l)
    (hp : ∀ x, x.size ≤ maxLen → x ∈ l → Calls Tryz.prog g #[.string x, v] w fun e w' => e = .returned (.bool (p x)) ∧ w = w') :
    Calls Tryz.prog 17 #[.slice A n c, .func (.func g) #[] #[v]] w fun e w' => e = .returned (.bool (l.any p)) ∧ w' = w := by
  have HC := Lib.hid (indexFuncS g eg v p A n c l w hsl hp)
  clear hp eg
  go_enter Tryz.func17, Tryz.ntmps17
  go_wp2_with (go_at_call 50; refine HC.out.mono ?_; rintro e w1 ⟨r, rfl, hr, rfl⟩; have HR := Lib.hid hr; clear hr)
  go_ret
  exact ⟨ret_bool HR.out, rfl⟩
set_option maxRecDepth 100000 in
theorem indexFuncN (g : Nat) (eg : ∀ args w, (callFunc g args).run Tryz.prog w = .ok (.enter g args) w) (v : Value) (p : Nat → Bool) (A : Option Addr) (n c : Nat) (l : List Nat) (w : World) (hsl : Sl w (Lt w.heap.size) A n l)
    (hp : ∀ x, x ≤ maxLen → x ∈ l → Calls Tryz.prog g #[.int .i64 (x : Int), v] w fun e w' => e = .returned (.bool (p x)) ∧ w = w') :
    Calls Tryz.prog 51 #[.slice A n c, .func (.func g) #[] #[v]] w fun e w' => ∃ r : Int, e = .returned (.int .i64 r) ∧ decide (0 ≤ r) = l.any p ∧ w = w' := by
  go_enter Tryz.func51, Tryz.ntmps51
  have hm : n ≤ 9223372036854775807 := hsl.2.1
  have HP := Lib.hid hp; clear hp
  go_wp2
  go_loop [5, 8] (fun _ i => ∃ k : Nat, k ≤ n ∧ i = .int .i64 k ∧ (l.take k).any p = false) (fun _ i => n - (intOf i).toNat)
  case atStart => exact ⟨0, Nat.zero_le _, rfl, rfl⟩
  case round =>
    obtain ⟨k, hk, rfl, hall⟩ := hrel
    have H := Lib.hid hall; clear hall
    by_cases hlt : k < n
    · first | obtain ⟨b, o, x, rfl, hb, hx, hxs, c0⟩ := hsl.str hlt | obtain ⟨b, o, x, rfl, hb, hx, hxs, c0⟩ := hsl.nat hlt
      have Hx := Lib.hid hx; clear hx
      cases hq : p x
      · have HS := Lib.hid (any_step (p := p) Hx.out H.out hq)
        go_wp2_with fail
        refine (HP.out x hxs (List.mem_of_getElem? Hx.out)).mono ?_
        rintro e w1 ⟨rfl, rfl⟩
        rw [hq]
        go_wp2
        go_round
        case rel => exact ⟨k + 1, by omega, by go_num, HS.out⟩
        case measure => simp [intOf]; omega
      · have HS := Lib.hid (any_yes (p := p) Hx.out hq)
        go_wp2_with fail
        refine (HP.out x hxs (List.mem_of_getElem? Hx.out)).mono ?_
        rintro e w1 ⟨rfl, rfl⟩
        rw [hq]
        go_wp2
        go_ret
        exact ⟨k, rfl, by rw [HS.out]; simp, rfl⟩
    · have HS := Lib.hid (any_end (by rw [hsl.1]; omega) H.out)
      go_wp2
      go_ret
      exact ⟨-1, rfl, by rw [HS.out]; rfl, rfl⟩
theorem containsFuncN (g : Nat) (eg : ∀ args w, (callFunc g args).run Tryz.prog w = .ok (.enter g args) w) (v : Value) (p : Nat → Bool) (A : Option Addr) (n c : Nat) (l : List Nat) (w : World) (hsl : Sl w (Lt w.heap.size) A n l)
    (hp : ∀ x, x ≤ maxLen → x ∈ l → Calls Tryz.prog g #[.int .i64 (x : Int), v] w fun e w' => e = .returned (.bool (p x)) ∧ w = w') :
    Calls Tryz.prog 19 #[.slice A n c, .func (.func g) #[] #[v]] w fun e w' => e = .returned (.bool (l.any p)) ∧ w' = w := by
  have HC := Lib.hid (indexFuncN g eg v p A n c l w hsl hp)
  clear hp eg
  go_enter Tryz.func19, Tryz.ntmps19
  go_wp2_with (go_at_call 51; refine HC.out.mono ?_; rintro e w1 ⟨r, rfl, hr, rfl⟩; have HR := Lib.hid hr; clear hr)
  go_ret
  exact ⟨ret_bool HR.out, rfl⟩
/-- the functions that are handed on -/
theorem susp1 (S : List (List UInt8)) (m nn g : Nat) (z : ByteArray) (w : World) (c0 : w.cell? ⟨g, 0, none⟩ = some (.map (some m))) (h0 : MapIs Tryz.prog 9 w m nn (setOf S)) (hz : z.size ≤ maxLen) :
    Calls Tryz.prog 18 #[.string z, .pointer (some ⟨g, 0, none⟩)] w fun e w' => e = .returned (.bool (decide (z.data.toList ∈ S))) ∧ w = w' := by
  have l0 := set_look h0 hz
  go_enter Tryz.func18, Tryz.ntmps18
  go_wp2
  go_ret
  exact ⟨rfl, rfl⟩
theorem susp2 (C : Addr) (n c g : Nat) (s : List Bool) (i : Nat) (w : World) (c0 : w.cell? ⟨g, 0, none⟩ = some (.slice (some C) n c)) (hs : Sl w (Lt w.heap.size) (some C) n s) (hi : i < n) :
    Calls Tryz.prog 20 #[.int .i64 (i : Int), .pointer (some ⟨g, 0, none⟩)] w fun e w' => e = .returned (.bool (isOf s i)) ∧ w = w' := by
  have hm : n ≤ 9223372036854775807 := hs.2.1
  obtain ⟨b, o, x, e1, _, hx, cx⟩ := hs.bool hi
  cases e1
  have hI : (i : Int) < (n : Int) := by omega
  have HV := Lib.hid (show isOf s i = x by rw [isOf, hx]; cases x <;> rfl)
  go_enter Tryz.func20, Tryz.ntmps20
  go_wp2
  go_ret
  exact ⟨by rw [HV.out]; rfl, rfl⟩
end Go.Proofs.Sm

namespace Go.Proofs.Sm
open Go.RowKit

theorem any_more {α : Type} {l : List α} {k : Nat} {x : α} (f : α → Bool) (h : l[k]? = some x) : (l.take (k + 1)).any f = ((l.take k).any f || f x) := by
  rw [List.take_add_one, h, List.any_append]; simp
theorem set_same {s : List Bool} {i : Nat} {v : Bool} (h : s[i]? = some v) : s.set i v = s := by
  apply List.ext_getElem?
  intro j
  by_cases e : i = j
  · subst e
    rw [List.getElem?_set_self (List.getElem?_eq_some_iff.1 h).1, h]
  · rw [List.getElem?_set_ne e]
theorem set_at {s : List Bool} {i n : Nat} (v : Bool) (h : s.length = n) (hi : i < n) : ((s.set i v).map Value.bool)[i]? = some (.bool v) := by
  rw [List.getElem?_map, List.getElem?_set_self (by omega)]; rfl
theorem set_off {s : List Bool} {i j : Nat} {y : Bool} (v : Bool) (h : s[j]? = some y) (hij : j ≠ i) : ((s.set i v).map Value.bool)[j]? = some (.bool y) := by
  rw [List.getElem?_map, List.getElem?_set_ne (fun e => hij e.symm), h]; rfl
set_option maxHeartbeats 4000000 in
set_option maxRecDepth 100000 in
theorem ref6_Suspects (A B : Option Addr) (n c m d : Nat) (l : List RuleV) (ws : List ByteArray) (w : World) (hE : Env w) (hsl : Sl w (Lt w.heap.size) A n l) (hws : Sl w (Lt w.heap.size) B m ws) :
    Calls Tryz.prog 6 #[.slice A n c, .slice B m d] w (SuspPost l ws w) := by
  obtain ⟨b0, hb0, hbz0, hbz1, hbz2⟩ := info_parts bool_info
  obtain ⟨i0, hi0, hz0, hz1, hz2⟩ := info_parts strs6_info
  have HL := Lib.hid hsl.1
  have HW := Lib.hid hws.1
  have hm : m ≤ 9223372036854775807 := hws.2.1
  have hn : n ≤ 9223372036854775807 := hsl.2.1
  go_enter Tryz.func6, Tryz.ntmps6
  go_wp2_with fail
  refine (ref6_CheckRules A n c l w hE hsl).mono ?_
  rintro e w1 ⟨rfl, hb1⟩
  cases h0 : (checkRulesS l == 0)
  · have hne : checkRulesS l ≠ 0 := by simpa using h0
    have hbn : (checkRulesS l != 0) = true := by simpa using h0
    have HV := Lib.hid (susp_bad (ws := ws) hne)
    have HN := Lib.hid hne
    clear hne
    go_wp2
    go_ret2
    exact SuspPost.bad HV.out HN.out hb1
  have hz : checkRulesS l = 0 := by simpa using h0
  have HR0 := Lib.hid hz
  rw [hz]
  clear h0
  have hl5 := (rules_sorted hz).2
  have hn5 : n ≤ 500 := by have := HL.out; omega
  clear hz
  by_cases hbig : (1000 : Int) < (m : Int)
  · have HV := Lib.hid (susp_large (ws := ws) HR0.out (by rw [HW.out]; exact hbig))
    go_wp2
    go_ret2
    exact SuspPost.bad HV.out (by decide) hb1
  have HB := Lib.hid (show ¬ (1000 : Int) < (ws.length : Int) by rw [HW.out]; exact hbig)
  go_wp2
  go_loopw [7] (fun iv wx => ∃ k : Nat, k ≤ m ∧ iv = .int .i64 k ∧ (ws.take k).any (fun p => !isPathS p) = false ∧ Below w.heap.size w wx) (fun iv _ => m - (intOf iv).toNat)
  case atStart => exact ⟨0, Nat.zero_le _, rfl, rfl, hb1⟩
  case round =>
    clear hb1
    obtain ⟨k, hk, rfl, hall, hbel⟩ := hrel
    have HA := Lib.hid hall; clear hall
    by_cases hlt : k < m
    · have hkI : (k : Int) < (m : Int) := by omega
      obtain ⟨b1, o1, x, rfl, _, hx, hxs, cx⟩ := (hws.keep (keep_lt hbel)).str hlt
      have HX := Lib.hid hx; clear hx
      go_wp2_with fail
      refine (ref1_IsPath x wr (hE.then_ hbel)).mono ?_
      rintro e w3 ⟨rfl, hb3⟩
      have hbel3 := fr_call hbel hb3
      cases hp : isPathS x
      · have HV := Lib.hid (susp_form HR0.out (by have := HB.out; omega) (List.mem_of_getElem? HX.out) hp)
        go_wp2
        go_ret2
        exact SuspPost.bad HV.out (by decide) hbel3
      · have HA2 := Lib.hid (any_step (p := fun p => !isPathS p) HX.out HA.out (by simp [hp]))
        go_wp2
        go_roundw
        case rel => exact ⟨k + 1, by omega, by go_num, HA2.out, hbel3⟩
        case measure => simp [intOf]; omega
    · rw [List.take_of_length_le (by rw [HW.out]; omega)] at HA
      have HZ := Lib.hid (susp_ok HR0.out (by have := HB.out; omega) HA.out)
      go_wp2_with fail
      refine (ref6_needsF A n c l wr (sl_call hsl hbel (Nat.le_refl _)) (by omega)).mono ?_
      rintro e w4 ⟨rfl, hnd, hb4⟩
      obtain ⟨g4, hg4⟩ : ∃ g4, g4 = wr.heap.size := ⟨_, rfl⟩
      rw [← hg4] at hnd ⊢
      clear hg4
      have hb04 := fr_call hbel hb4
      go_wp2_with fail
      refine (ref6_all n w4 (by omega)).mono ?_
      rintro e w5 ⟨rfl, ha5, hb5⟩
      have hb05 := fr_call hb04 hb5
      have hnd5 := hnd.keep (w' := w5) fun k hk => hb5.block k hk.2
      have hin5 := all_sl ha5 (by unfold maxLen; omega)
      have hz5 := hb5.size
      have hnd5' := hnd5.more (S' := Lt w5.heap.size) fun k hk => Nat.lt_of_lt_of_le hk.2 hz5
      clear hnd ha5 hb4
      go_wp2_with fail
      refine (ref6_ordered _ _ n n n (needsS l) (List.replicate n true) w5 hnd5' hin5 (needs_within l) (by omega)).mono ?_
      rintro e w6 ⟨v6, rfl, hrow6, hb6⟩
      have HE := Lib.hid (show orderS (needsS l) (isOf (List.replicate n true)) = orderS (needsS l) allTrue by rw [show allTrue = fun _ => true from rfl, ← orderS_all, needsS_length, HL.out])
      rw [HE.out] at hrow6 ⊢
      obtain ⟨A7, c7, rfl, h71, h72, hs7⟩ := hrow6.sl
      have HD := Lib.hid (orderS_done (needsS l) allTrue)
      have HBh := Lib.hid (orderS_behind (needsS l) allTrue)
      have HSu := Lib.hid (show suspS l ws = hitNames l (hitsS l ws (orderS (needsS l) allTrue).1) l.length from rfl)
      clear HE hrow6
      generalize (orderS (needsS l) allTrue).1 = od at HD HBh HSu hs7 h71 h72 ⊢
      generalize (orderS (needsS l) allTrue).2 = ob
      have hdl : od.length ≤ 500 := by
        have h1 := HD.out.most
        have h2 := many_le (needsS l) allTrue
        rw [needsS_length, HL.out] at h2
        omega
      have hdm : od.length ≤ 9223372036854775807 := by omega
      have hb06 := fr_call hb05 hb6
      have hnd6 := hnd5.keep (w' := w6) fun k hk => hb6.block k (Nat.lt_of_lt_of_le hk.2 hz5)
      have hnd6' := hnd6.more (S' := Lt w6.heap.size) fun k hk => by
        have h1 := hb6.size
        have h2 : k < w4.heap.size := hk.2
        show k < w6.heap.size
        omega
      have hsl6 := (hsl.keep (keep_lt hb06)).more (S' := Lt w6.heap.size) (lt_mono hb06.size)
      have hws6 := (hws.keep (keep_lt hb06)).more (S' := Lt w6.heap.size) (lt_mono hb06.size)
      clear hnd5 hnd5' hin5 hb5 hb6 hb05 hb04 hbel hnd6
      go_wp2_with (at_make; refine wpList_make_full _ rfl _ _ 44 rfl w6.heap.size 4 b0 (.bool false) 1 Tryz.underlying44 hb0 hbz0 hbz1 .i64 .i64 (n : Nat) (n : Nat) n rfl rfl rfl rfl (by rw [hbz2]; omega) (by unfold maxLen; omega) (Nat.le_refl _) ?_; intro w7 hown hg7)
      rw [show ((.bool false : Value).cells) = #[.bool false] from rfl, made_cells] at hown
      have ha1 := Arr.of_full hown
      have hb7 : Below w6.heap.size w6 w7 := (Below.refl _ w6).grown hg7 (Nat.le_refl _) fun k hk => by cases hk
      have ha7 : Arr w7 w6.heap.size 4 ((hitsS l ws (od.take 0)).map Value.bool) := by rw [List.take_zero, hits_start, HL.out, List.map_replicate]; exact ha1
      obtain ⟨C, hC⟩ : ∃ C, C = w6.heap.size := ⟨_, rfl⟩
      rw [← hC] at ha7
      have HC := Lib.hid (show w6.heap.size ≤ C by omega)
      clear hown hg7 ha1
      go_wp2
      rw [← hC]
      clear hC
      go_loopw [12] (fun iv wx => ∃ t : Nat, t ≤ od.length ∧ iv = .int .i64 t ∧ Arr wx C 4 ((hitsS l ws (od.take t)).map Value.bool) ∧ Below w6.heap.size w6 wx) (fun iv _ => od.length - (intOf iv).toNat)
      case atStart => exact ⟨0, Nat.zero_le _, rfl, ha7, hb7⟩
      case round =>
        clear ha7 hb7
        obtain ⟨t, ht, rfl, ha, hbel2⟩ := hrel
        by_cases htl : t < od.length
        · have htI : (t : Int) < (od.length : Int) := by omega
          obtain ⟨b7, o7, i, rfl, _, hi, him, ci⟩ := (hs7.keep (keep_lt hbel2)).nat htl
          have hin : i < n := by have := HD.out.lt i (List.mem_of_getElem? hi); rw [needsS_length, HL.out] at this; exact this
          have hiI : (i : Int) < (n : Int) := by omega
          have hs0 : (hitsS l ws (od.take t))[i]? = some false := hits_off (by rw [HL.out]; exact hin) (nodup_take HD.out.nodup hi)
          have HMo := Lib.hid (hits_more (l := l) (ws := ws) hi)
          obtain ⟨b9, o9, r, A9, n9, c9, e9, hb9q, hr, hn9, hc9, hrow9, cr9⟩ := hnd6'.row hin
          have hneed : needAt (needsS l) i = r := by rw [needAt, hr]; rfl
          have HHit := Lib.hid (show hitOne l ws (hitsS l ws (od.take t)) i = ((insAt l i).any (fun p => hasB ws p) || r.any (isOf (hitsS l ws (od.take t)))) by rw [hitOne, hneed])
          have HRn := Lib.hid (show ∀ j ∈ r, j < n ∧ j ≠ i from fun j hj => by
            rw [← hneed] at hj
            refine ⟨by have := needs_lt hj; rw [HL.out] at this; exact this, ?_⟩
            rintro rfl
            exact nodup_take HD.out.nodup hi (HBh.out t j hi j hj))
          obtain ⟨b, o, x, rfl, hbq, hx, A1, n1, c1, A2, n2, c2, A3, n3, c3, A4, n4, c4, A5, n5, c5, _, ⟨_, _, _, _, _, _, _, _, h5a, h5b⟩, ⟨_, _, _, _, s5⟩, _, _, _, _, _, _, _, q7⟩ := hsl6.rule hin
          rw [← insAt_some hx] at s5
          cases e9
          obtain ⟨s, hs⟩ : ∃ s, s = hitsS l ws (od.take t) := ⟨_, rfl⟩
          have HSn := Lib.hid (show s.length = n by rw [hs, hits_length]; exact HL.out)
          rw [← hs] at ha hs0 HMo HHit
          have HLi := Lib.hid (s5.1)
          have HLr := Lib.hid (hrow9.1)
          have hm5 : n5 ≤ 9223372036854775807 := s5.2.1
          have hm9 : n9 ≤ 9223372036854775807 := hrow9.2.1
          rw [← set_same hs0] at ha
          have HQ7 := Lib.hid (fun (W : World) (hW : Below w6.heap.size w6 W) => (hW.cell (p := ⟨b, o + i * 8 + 7, none⟩) hbq).trans q7)
          have HR9 := Lib.hid (fun (W : World) (hW : Below w6.heap.size w6 W) => (hW.cell (p := ⟨g4, 0 + i, none⟩) hb9q).trans cr9)
          clear hs hi hs0 hr hneed hx q7 cr9 hn9 hc9 h5a h5b
          go_wp2
          go_loopw [14] (fun iv wx => ∃ k : Nat, k ≤ n5 ∧ iv = .int .i64 k ∧ Arr wx C 4 ((s.set i (((insAt l i).take k).any fun p => hasB ws p)).map Value.bool) ∧ Below w6.heap.size w6 wx) (fun iv _ => n5 - (intOf iv).toNat)
          case atStart => exact ⟨0, Nat.zero_le _, rfl, ha, hbel2⟩
          case round =>
            clear ha hbel2 ci
            obtain ⟨k, hk, rfl, ha, hbel3⟩ := hrel
            have q7 := HQ7.out wr hbel3
            by_cases hlk : k < n5
            · have hkI : (k : Int) < (n5 : Int) := by omega
              obtain ⟨bp, op, p, rfl, _, hp, hps, cp⟩ := (s5.keep (keep_lt hbel3)).str hlk
              have HM := Lib.hid (any_more (fun p => hasB ws p) hp)
              clear hp
              cases hv : ((insAt l i).take k).any fun p => hasB ws p
              · rw [hv] at ha HM
                have cC := ha.cell (set_at false HSn.out hin)
                have hfr := ha.frozen i
                have ha2 := ha.set i (.bool (hasB ws p))
                rw [← List.map_set, List.set_set] at ha2
                have hb2 := hbel3.setCell (p := ⟨C, i, none⟩) HC.out (.bool (hasB ws p))
                have HA2 := Lib.hid ha2
                clear hv ha ha2
                go_wp2_with fail
                refine (ref6_has B m d ws p wr _ (hws6.keep (keep_lt hbel3))).mono ?_
                rintro e w9 ⟨rfl, rfl⟩
                go_wp2
                go_roundw
                case rel => exact ⟨k + 1, by omega, by go_num, by rw [HM.out, Bool.false_or]; exact HA2.out, hb2⟩
                case measure => simp [intOf]; omega
              · rw [hv] at ha HM
                have cC := ha.cell (set_at true HSn.out hin)
                have hfr := ha.frozen i
                have ha2 := ha.set i (.bool true)
                rw [← List.map_set, List.set_set] at ha2
                have hb2 := hbel3.setCell (p := ⟨C, i, none⟩) HC.out (.bool true)
                have HA2 := Lib.hid ha2
                clear hv ha ha2
                go_wp2
                go_roundw
                case rel => exact ⟨k + 1, by omega, by go_num, by rw [HM.out, Bool.true_or]; exact HA2.out, hb2⟩
                case measure => simp [intOf]; omega
            · rw [List.take_of_length_le (by rw [HLi.out]; omega)] at ha
              generalize (insAt l i).any (fun p => hasB ws p) = v0 at ha HHit
              go_wp2
              go_loopw [15] (fun iv wx => ∃ k : Nat, k ≤ n9 ∧ iv = .int .i64 k ∧ Arr wx C 4 ((s.set i (v0 || (r.take k).any (isOf s))).map Value.bool) ∧ Below w6.heap.size w6 wx) (fun iv _ => n9 - (intOf iv).toNat)
              case atStart => exact ⟨0, Nat.zero_le _, rfl, by rw [List.take_zero, List.any_nil, Bool.or_false]; exact ha, hbel3⟩
              case round =>
                clear ha hbel3 q7
                obtain ⟨k, hk, rfl, ha, hbel3⟩ := hrel
                have cr9 := HR9.out wr hbel3
                rw [Nat.zero_add] at cr9
                by_cases hlk : k < n9
                · have hkI : (k : Int) < (n9 : Int) := by omega
                  obtain ⟨bp, op, j, rfl, _, hj, hjm, cj⟩ := (hrow9.keep (keep_lt hbel3)).nat hlk
                  have HM := Lib.hid (any_more (isOf s) hj)
                  obtain ⟨hjn, hji⟩ := HRn.out j (List.mem_of_getElem? hj)
                  have hjI : (j : Int) < (n : Int) := by omega
                  obtain ⟨y, hy⟩ := at_lt (l := s) (k := j) (by rw [HSn.out]; exact hjn)
                  have HY := Lib.hid (show isOf s j = y by rw [isOf, hy]; cases y <;> rfl)
                  clear hj
                  cases hv : (v0 || (r.take k).any (isOf s))
                  · rw [hv] at ha
                    have cC := ha.cell (set_at false HSn.out hin)
                    have cC2 := ha.cell (set_off false hy hji)
                    have hfr := ha.frozen i
                    have ha2 := ha.set i (.bool y)
                    rw [← List.map_set, List.set_set] at ha2
                    have hb2 := hbel3.setCell (p := ⟨C, i, none⟩) HC.out (.bool y)
                    have HA2 := Lib.hid ha2
                    have HV := Lib.hid (show (v0 || (r.take (k + 1)).any (isOf s)) = y by rw [HM.out, ← Bool.or_assoc, hv, HY.out, Bool.false_or])
                    clear hv ha ha2 hy hji
                    go_wp2
                    go_roundw
                    case rel => exact ⟨k + 1, by omega, by go_num, by rw [HV.out]; exact HA2.out, hb2⟩
                    case measure => simp [intOf]; omega
                  · rw [hv] at ha
                    have cC := ha.cell (set_at true HSn.out hin)
                    have hfr := ha.frozen i
                    have ha2 := ha.set i (.bool true)
                    rw [← List.map_set, List.set_set] at ha2
                    have hb2 := hbel3.setCell (p := ⟨C, i, none⟩) HC.out (.bool true)
                    have HA2 := Lib.hid ha2
                    have HV := Lib.hid (show (v0 || (r.take (k + 1)).any (isOf s)) = true by rw [HM.out, ← Bool.or_assoc, hv, Bool.true_or])
                    clear hv ha ha2 hy hji
                    go_wp2
                    go_roundw
                    case rel => exact ⟨k + 1, by omega, by go_num, by rw [HV.out]; exact HA2.out, hb2⟩
                    case measure => simp [intOf]; omega
                · rw [List.take_of_length_le (by rw [HLr.out]; omega), ← HHit.out, ← HMo.out] at ha
                  have HA2 := Lib.hid ha
                  clear ha
                  go_wp2
                  go_roundw
                  case rel => exact ⟨t + 1, by omega, by go_num, HA2.out, hbel3⟩
                  case measure => simp [intOf]; omega
        · rw [List.take_of_length_le (by omega)] at ha
          obtain ⟨s9, hs9⟩ : ∃ s9, s9 = hitsS l ws od := ⟨_, rfl⟩
          have HL9 := Lib.hid (show s9.length = n by rw [hs9, hits_length]; exact HL.out)
          rw [← hs9] at ha
          have HS9 := Lib.hid (show suspS l ws = hitNames l s9 n by rw [hs9, ← HL.out]; exact HSu.out)
          have hbE := fr_call hb06 hbel2
          have hsl9 := sl_call hsl6 hbel2 (Nat.le_refl _)
          clear hs9 hws6 hsl6 hbel2 hs7 hnd6'
          obtain ⟨w9, rfl⟩ : ∃ w9, w9 = wr := ⟨_, rfl⟩
          have hwz := hbE.size
          have HWZ := Lib.hid hwz
          go_wp2
          go_loopw [16, 17] (fun v iv wx => ∃ k : Nat, k ≤ n ∧ iv = .int .i64 k ∧ RowK wx w9.heap.size 9 (fun _ => False) v (hitNames l s9 k) ∧ Below w9.heap.size w9 wx) (fun _ iv _ => n - (intOf iv).toNat)
          case atStart => exact ⟨0, Nat.zero_le _, rfl, RowK.nil, Below.refl _ _⟩
          case round =>
            obtain ⟨k, hk, rfl, hrow, hbel⟩ := hrel
            by_cases hlt : k < n
            · have hkI : (k : Int) < (n : Int) := by omega
              obtain ⟨yv, hyv⟩ := at_lt (l := s9) (k := k) (by rw [HL9.out]; exact hlt)
              have cC := (ha.call hbel).cell (i := k) (v := .bool yv) (by rw [List.getElem?_map, hyv]; rfl)
              cases yv
              · have HN := Lib.hid (hitNames_no (l := l) hyv)
                have HR5 := Lib.hid hrow
                clear hyv hrow
                go_wp2
                go_roundw
                case rel => exact ⟨k + 1, by omega, by go_num, by rw [HN.out]; exact HR5.out, hbel⟩
                case measure => simp [intOf]; omega
              · obtain ⟨b4, o4, x, rfl, _, hx, hxs, cx⟩ := (hsl9.keep (keep_lt hbel)).ruleName hlt
                have HN := Lib.hid (hitNames_yes hyv hx)
                have hlen := hitNames_le l s9 k
                obtain ⟨L, hL⟩ : ∃ L, L = hitNames l s9 k := ⟨_, rfl⟩
                rw [← hL] at HN hrow hlen
                clear hyv hx hL
                have hW9 : Below wr.heap.size wr (wr.alloc (.cells #[.string x.name] 9)) := fr_alloc (fr_refl wr) _
                obtain ⟨_, rows, hrows, hown9, hrep⟩ := hrow.call hW9
                have hoth : ∀ b, Value.ownBlock u16 = some b → w9.heap.size ≤ b := fun b hb => (hrow.kind b hb).1
                have H9 := Lib.hid hown9
                have HRp := Lib.hid hrep
                have hb9 := hbel.trans (hW9.mono hbel.size)
                have hz1r := hbel.size
                clear hrow hown9 hrep
                go_wp2_with (at_builtin; refine wpList_append_lies _ rfl _ _ 23 rfl w9.heap.size 9 i0 _ 1 16 Tryz.underlying23 hi0 hz0 hz1 hz2 rfl (by decide) _ L.length _ rfl H9.out ⟨wr.heap.size, 0, none⟩ 1 1 [.string x.name] rfl rfl (new_cells wr #[_] _) (fun u hu => (by simp only [List.mem_cons, List.mem_nil_iff, or_false] at hu; subst hu; rfl)) (by decide) (by unfold maxLen; omega) (by omega) (by rw [World.size_alloc]; omega) _ rfl ?_)
                intro g' cap w5 hown5 hg5 hat5 hlt5
                have row5 := RowK.append (x := x.name) (r := [.string x.name]) (l := L) (fun k hh => hh.elim) hrows HRp.out ⟨rfl, hxs⟩ (fun _ _ hh => hh) hg5 hown5
                rw [← HN.out] at row5
                have hb5 := hb9.grown hg5 (by rw [World.size_alloc]; omega) fun b hb => hoth b hb
                have HR5 := Lib.hid row5
                clear row5 hown5 hg5 hat5 H9 HRp hb9 hW9 hlen hrows
                go_wp2
                go_roundw
                case rel => exact ⟨k + 1, by omega, by go_num, HR5.out, hb5⟩
                case measure => simp [intOf]; omega
            · have hkn : k = n := by omega
              rw [hkn, ← HS9.out] at hrow
              have HE := Lib.hid (SuspPost.good (w := w) HZ.out (hrow.weaken HWZ.out) (hbE.trans (hbel.mono HWZ.out)))
              clear hrow
              go_wp2
              go_ret2
              exact HE.out
end Go.Proofs.Sm

namespace Go.Proofs.Sm
open Go.RowKit

def keysOf (l : List ByteArray) : List (List UInt8) := l.map fun x => x.data.toList
theorem keys_more {l : List ByteArray} {k : Nat} {x : ByteArray} (h : l[k]? = some x) : keysOf (l.take (k + 1)) = keysOf (l.take k) ++ [x.data.toList] := by rw [keysOf, keysOf, List.take_add_one, h, List.map_append]; rfl
theorem order_full {l : List RuleV} (hc : checkRulesS l = 0) : (orderS (needsS l) allTrue).2 = true := by
  unfold checkRulesS at hc
  split at hc
  · contradiction
  split at hc
  · rename_i h2; exact absurd hc h2
  split at hc
  · rename_i h2; exact absurd hc h2
  split at hc
  · contradiction
  · rename_i h2; exact (by simpa using h2 : (orderS (needsS l) fun _ => true).2 = true)
theorem hits_keys {ws l : List ByteArray} : (l.any fun p => hasB ws p) = l.any fun p => decide (p.data.toList ∈ keysOf ws) := by
  congr 1
  funext p
  rw [hasB_data, Bool.eq_iff_iff, List.any_eq_true, decide_eq_true_eq, keysOf, List.mem_map]
  simp
theorem Sl.keep' {α : Type} [Rep α] {w W : World} {A : Option Addr} {n : Nat} {l : List α} (h : Sl w (Lt w.heap.size) A n l) (hW : W.heap = w.heap) : Sl W (Lt W.heap.size) A n l := by
  have := h.keep (w' := W) fun k _ => by rw [hW]
  rwa [show W.heap.size = w.heap.size by rw [hW]]
set_option maxHeartbeats 4000000 in
set_option maxRecDepth 100000 in
theorem steps_Suspects (A B : Option Addr) (n c m d : Nat) (l : List RuleV) (ws : List ByteArray) (w : World) (hE : Env w) (hsl : Sl w (Lt w.heap.size) A n l) (hws : Sl w (Lt w.heap.size) B m ws) :
    Calls Tryz.prog 5 #[.slice A n c, .slice B m d] w (SuspPost l ws w) := by
  obtain ⟨b0, hb0, hbz0, hbz1, hbz2⟩ := info_parts bool_info
  obtain ⟨i0, hi0, hz0, hz1, hz2⟩ := info_parts strs6_info
  have HL := Lib.hid hsl.1
  have HW := Lib.hid hws.1
  have hm : m ≤ 9223372036854775807 := hws.2.1
  go_enter Tryz.func5, Tryz.ntmps5
  go_wp2_with fail
  refine (steps_open A n c l w hE hsl).mono ?_
  rintro e w0 ⟨vp, rfl, hbad0, hgood0, hbw⟩
  by_cases hr0 : checkRulesS l = 0
  · obtain ⟨g, rfl, hpl0⟩ := hgood0 hr0
    have HR0 := Lib.hid hr0
    rw [hr0]
    clear hr0 hbad0 hgood0
    by_cases hbig : (1000 : Int) < (m : Int)
    · have HV := Lib.hid (susp_large (ws := ws) HR0.out (by rw [HW.out]; exact hbig))
      go_wp2
      go_ret2
      exact SuspPost.bad HV.out (by decide) hbw
    · have HB := Lib.hid (show ¬ (1000 : Int) < (ws.length : Int) by rw [HW.out]; exact hbig)
      have hmm := @run_makeMap Tryz.prog
      go_wp2
      obtain ⟨mb, hmb⟩ : ∃ mb, mb = w0.heap.size := ⟨_, rfl⟩
      have hM0 : MapIs Tryz.prog 9 ((w0.alloc (.map #[] 0)).alloc (.cells #[.map (some w0.heap.size)] 39)) mb 0 (setOf (keysOf (ws.take 0))) := by
        rw [hmb]
        exact ((MapIs.made (P := Tryz.prog) (k := 9) w0).congr fun key => by simp [setOf, keysOf]).call (fr_alloc (fr_refl _) _)
      have hb2 : Below w0.heap.size w0 ((w0.alloc (.map #[] 0)).alloc (.cells #[.map (some w0.heap.size)] 39)) := fr_call (fr_alloc (fr_refl w0) _) (fr_alloc (fr_refl _) _)
      have hbx0 : Arr ((w0.alloc (.map #[] 0)).alloc (.cells #[.map (some w0.heap.size)] 39)) (mb + 1) 39 [.map (some mb)] := by
        have := heap_alloc_new (w0.alloc (.map #[] 0)) (.cells #[.map (some w0.heap.size)] 39)
        rw [World.size_alloc] at this
        rw [Arr, hmb]; exact this
      have hzmb : w0.heap.size ≤ mb := by omega
      clear hmm
      rw [← hmb] at hM0 hb2 hbx0 ⊢
      have HMB := Lib.hid hmb
      clear hmb
      generalize (w0.alloc (.map #[] 0)).alloc (.cells #[.map (some mb)] 39) = W2 at hM0 hb2 hbx0 ⊢
      rw [HMB.out] at hb2
      have hE0 := hE.then_ hbw
      have hws0 := sl_call hws hbw (Nat.le_refl _)
      have hsl0 := sl_call hsl hbw (Nat.le_refl _)
      go_loopw [33] (fun iv wx => ∃ (k nn : Nat), k ≤ m ∧ iv = .int .i64 k ∧ nn ≤ k ∧ (ws.take k).any (fun p => !isPathS p) = false ∧ MapIs Tryz.prog 9 wx mb nn (setOf (keysOf (ws.take k))) ∧ Arr wx (mb + 1) 39 [.map (some mb)] ∧ Below w0.heap.size w0 wx) (fun iv _ => m - (intOf iv).toNat)
      case atStart => exact ⟨0, 0, Nat.zero_le _, rfl, Nat.le_refl _, rfl, hM0, hbx0, hb2⟩
      case round =>
        clear hM0 hb2 hbx0
        obtain ⟨k, nn, hk, rfl, hnn, hall, hM, hbx, hbel⟩ := hrel
        have HA := Lib.hid hall; clear hall
        by_cases hlt : k < m
        · have hkI : (k : Int) < (m : Int) := by omega
          obtain ⟨b1, o1, x, rfl, _, hx, hxs, cx⟩ := (hws0.keep (keep_lt hbel)).str hlt
          have HX := Lib.hid hx; clear hx
          go_wp2_with fail
          refine (blob_IsPath x wr (hE0.then_ hbel)).mono ?_
          rintro e w3 ⟨rfl, hb3⟩
          have hbel3 := fr_call hbel hb3
          have hM3 := hM.call hb3
          have hbx3 := hbx.call hb3
          clear hM hbx
          cases hp : isPathS x
          · have HV := Lib.hid (susp_form HR0.out (by have := HB.out; omega) (List.mem_of_getElem? HX.out) hp)
            have hbE := fr_call hbw hbel3
            go_wp2
            go_ret2
            exact SuspPost.bad HV.out (by decide) hbE
          · have HA2 := Lib.hid (any_step (p := fun p => !isPathS p) HX.out HA.out (by simp [hp]))
            have HS := Lib.hid (keys_more HX.out)
            have cb := hbx3.cell (i := 0) rfl
            go_wp2_with (at_mapUpdate; refine wpList_mapUpdate_is _ rfl _ _ _ 39 rfl Tryz.underlying9 Tryz.underlying39 rfl hM3 (by unfold maxLen; omega) x hxs (.bool true) rfl rfl ?_; intro w4 hmap4 hg4)
            have hM4 := hmap4.congr (set_more (keysOf (ws.take k)) x.data.toList)
            rw [← HS.out] at hM4
            have hbx4 := hbx3.grown hg4 (by intro e; injection e; omega)
            have hb4 := hbel3.grown hg4 hbel3.size fun k hk => by cases hk; omega
            clear hmap4 hg4 hM3 hbx3 cb
            go_wp2
            go_roundw
            case rel => exact ⟨k + 1, nn + 1, by omega, by go_num, by omega, HA2.out, hM4, hbx4, hb4⟩
            case measure => simp [intOf]; omega
        · rw [List.take_of_length_le (by rw [HW.out]; omega)] at HA hM
          have HZ := Lib.hid (susp_ok HR0.out (by have := HB.out; omega) HA.out)
          obtain ⟨_, mp, np, D, dd, hP, hof, hd1, hd2, hnd⟩ := hpl0.call hbel
          have c0 := hP.cell (i := 0) rfl
          have c2 := hP.cell (i := 2) rfl
          have hgl := hP.lt
          have hn5 : n ≤ 500 := by have := (rules_sorted HR0.out).2; have := HL.out; omega
          go_wp2_with fail
          refine (steps_order_nil g A D n c dd (needsS l) wr hgl c0 c2 hnd (needs_within l) (needs_nodup l) (by omega)).mono ?_
          rintro e w4 ⟨v4, rfl, hrow4, hb4⟩
          rw [order_full HR0.out]
          rw [outOf, if_pos (order_full HR0.out)] at hrow4
          have hM4 := hM.call hb4
          have hbx4 := hbx.call hb4
          have hb04 := fr_call hbel hb4
          have hP4 := hP.call hb4
          have hnd4 := sl_call hnd hb4 (Nat.le_refl _)
          obtain ⟨A7, c7, rfl, h71, h72, hs7⟩ := hrow4.sl
          have HD := Lib.hid (orderS_done (needsS l) allTrue)
          have HBh := Lib.hid (orderS_behind (needsS l) allTrue)
          have HSu := Lib.hid (show suspS l ws = hitNames l (hitsS l ws (orderS (needsS l) allTrue).1) l.length from rfl)
          generalize (orderS (needsS l) allTrue).1 = od at HD HBh HSu hs7 h71 h72
          have hdl : od.length ≤ 500 := by
            have h1 := HD.out.most
            have h2 := many_le (needsS l) allTrue
            rw [needsS_length, HL.out] at h2
            omega
          have hdm : od.length ≤ 9223372036854775807 := by omega
          clear hM hbx c0 c2 hof hd1 hd2 hP hnd hrow4
          go_wp2_with (at_make; refine wpList_make_full _ rfl _ _ 44 rfl w4.heap.size 4 b0 (.bool false) 1 Tryz.underlying44 hb0 hbz0 hbz1 .i64 .i64 (n : Nat) (n : Nat) n rfl rfl rfl rfl (by rw [hbz2]; omega) (by unfold maxLen; omega) (Nat.le_refl _) ?_; intro w5 hown hg5)
          rw [show ((.bool false : Value).cells) = #[.bool false] from rfl, made_cells] at hown
          have ha1 := Arr.of_full hown
          have hb5 : Below w4.heap.size w4 w5 := (Below.refl _ w4).grown hg5 (Nat.le_refl _) fun k hk => by cases hk
          have hz5 : w4.heap.size + 1 ≤ w5.heap.size := ha1.lt
          have ha5 : Arr w5 w4.heap.size 4 ((hitsS l ws (od.take 0)).map Value.bool) := by rw [List.take_zero, hits_start, HL.out, List.map_replicate]; exact ha1
          obtain ⟨C, hC⟩ : ∃ C, C = w4.heap.size := ⟨_, rfl⟩
          obtain ⟨bx, hbx5⟩ : ∃ bx, bx = w5.heap.size := ⟨_, rfl⟩
          have ha6 := ha5.call (w' := w5.alloc (.cells #[.slice (some ⟨w4.heap.size, 0, none⟩) n n] 44)) (fr_alloc (fr_refl _) _)
          have hb6 : Below w4.heap.size w4 (w5.alloc (.cells #[.slice (some ⟨w4.heap.size, 0, none⟩) n n] 44)) := fr_call hb5 (fr_alloc (fr_refl _) _)
          have hx6 : Arr (w5.alloc (.cells #[.slice (some ⟨w4.heap.size, 0, none⟩) n n] 44)) w5.heap.size 44 [.slice (some ⟨w4.heap.size, 0, none⟩) n n] := heap_alloc_new w5 _
          clear hown hg5 ha1 ha5 hb5
          go_wp2
          rw [← hbx5, ← hC]
          rw [← hbx5, ← hC] at hx6
          rw [← hC] at ha6 hb6
          have hxC : C < bx := by omega
          have HC := Lib.hid hC
          clear hC hbx5 hz5
          generalize w5.alloc (.cells #[.slice (some ⟨C, 0, none⟩) n n] 44) = W6 at hx6 ha6 hb6 ⊢
          have hws4 := sl_call hws0 hb04 (Nat.le_refl _)
          have hsl4 := sl_call hsl0 hb04 (Nat.le_refl _)
          go_loopw [53] (fun iv wx => ∃ t : Nat, t ≤ od.length ∧ iv = .int .i64 t ∧ Arr wx C 4 ((hitsS l ws (od.take t)).map Value.bool) ∧ Arr wx bx 44 [.slice (some ⟨C, 0, none⟩) n n] ∧ Below C w4 wx) (fun iv _ => od.length - (intOf iv).toNat)
          case atStart => exact ⟨0, Nat.zero_le _, rfl, ha6, hx6, hb6⟩
          case round =>
            clear ha6 hx6 hb6
            obtain ⟨t, ht, rfl, ha, hxb, hbel2⟩ := hrel
            rw [HC.out] at hbel2
            by_cases htl : t < od.length
            · have htI : (t : Int) < (od.length : Int) := by omega
              obtain ⟨b7, o7, i, rfl, _, hi, him, ci⟩ := (hs7.keep (keep_lt hbel2)).nat htl
              have hin : i < n := by have := HD.out.lt i (List.mem_of_getElem? hi); rw [needsS_length, HL.out] at this; exact this
              have hiI : (i : Int) < (n : Int) := by omega
              have HMo := Lib.hid (hits_more (l := l) (ws := ws) hi)
              obtain ⟨b, o, x, rfl, hbq, hx, A1, n1, c1, A2, n2, c2, A3, n3, c3, A4, n4, c4, A5, n5, c5, _, _, ⟨_, _, s3, _, s5⟩, q0, q1, q2, q3, q4, q5, q6, q7⟩ := (hsl4.keep (keep_lt hbel2)).rule hin
              rw [← insAt_some hx] at s5
              have hP5 := hP4.call hbel2
              have p2 := hP5.cell (i := 2) rfl
              obtain ⟨b9, o9, r, A9, n9, c9, rfl, _, hr, hn9, hc9, hrow9, cr9⟩ := ((sl_call hnd4 hbel2 (Nat.le_refl _))).row hin
              have hneed : needAt (needsS l) i = r := by rw [needAt, hr]; rfl
              have hbb := ha.sl (α := Bool) (l := hitsS l ws (od.take t)) rfl (by simp) (by rw [hits_length, HL.out]; unfold maxLen; omega) fun _ x v hx hv => by
                rw [List.getElem?_map, hx] at hv
                cases hv; rfl
              rw [hits_length, HL.out] at hbb
              have hMr := hM4.call hbel2
              have hbxr := hbx4.call hbel2
              have cm := hbxr.cell (i := 0) rfl
              have cx := hxb.cell (i := 0) rfl
              have HC1 := Lib.hid (fun (W : World) (hW : W.heap = wr.heap) => containsFuncS 18 (enters_of Tryz.func18 (by kernel_rfl) rfl) (.pointer (some ⟨mb + 1, 0, none⟩)) (fun p => decide (p.data.toList ∈ keysOf ws)) A5 n5 c5 (insAt l i) W ((s5.more (lt_mono hbel2.size)).keep' hW) (fun p hp _ => susp1 _ mb _ (mb + 1) p W (by rw [World.cell?, hW]; exact cm) (hMr.keep (by rw [hW])) hp))
              have HC2 := Lib.hid (fun (W : World) (hW : W.heap = wr.heap) => containsFuncN 20 (enters_of Tryz.func20 (by kernel_rfl) rfl) (.pointer (some ⟨bx, 0, none⟩)) (isOf (hitsS l ws (od.take t))) A9 n9 c9 r W (hrow9.keep' hW) (fun j _ hj => susp2 ⟨C, 0, none⟩ n n bx (hitsS l ws (od.take t)) j W (by rw [World.cell?, hW]; exact cx) (hbb.keep' hW) (by rw [← hneed] at hj; have := needs_lt hj; have := HL.out; omega)))
              obtain ⟨v0, hv0⟩ := at_lt (l := hitsS l ws (od.take t)) (k := i) (by rw [hits_length, HL.out]; exact hin)
              have cC := ha.cell (i := i) (by rw [List.getElem?_map, hv0]; rfl)
              have HHit := Lib.hid (show hitOne l ws (hitsS l ws (od.take t)) i = ((insAt l i).any (fun p => decide (p.data.toList ∈ keysOf ws)) || r.any (isOf (hitsS l ws (od.take t)))) by rw [hitOne, hneed, hits_keys])
              have hfr := ha.frozen i
              have HFin := Lib.hid (fun (v : Bool) (hv : hitOne l ws (hitsS l ws (od.take t)) i = v) => (show Arr (wr.setCell ⟨C, i, none⟩ (.bool v)) C 4 ((hitsS l ws (od.take (t + 1))).map Value.bool) ∧ Arr (wr.setCell ⟨C, i, none⟩ (.bool v)) bx 44 [.slice (some ⟨C, 0, none⟩) n n] ∧ Below C w4 (wr.setCell ⟨C, i, none⟩ (.bool v)) from
                ⟨by rw [HMo.out, hv, List.map_set]; exact ha.set i _, hxb.other (p := ⟨C, i, none⟩) (by show bx ≠ C; omega) _, by have := hbel2.setCell (p := ⟨C, i, none⟩) (by show w4.heap.size ≤ C; have := HC.out; omega) (.bool v); rw [HC.out]; rw [HC.out] at this; exact this⟩))
              clear ha hxb hbel2 hMr hbxr cm hbb hrow9 hn9 hc9 hneed hr s3 s5 q0 q1 q2 q3 q4 q5 q6 hx hbq hP5 him hi hv0 HMo hM4 hbx4 hb04 hws4 hsl4 hnd4 hP4 hs7 hsl0 hws0 hE0 hbw hE hsl hws
              cases hq : (insAt l i).any (fun p => decide (p.data.toList ∈ keysOf ws))
              · rw [hq] at HC1 HHit
                rw [Bool.false_or] at HHit
                clear hq
                go_wp2
                go_still_tail 21, (by kernel_rfl)
                still_call (HC1.out wr.drew rfl)
                repeat still_step
                still_call (HC2.out wr.drew rfl)
                repeat still_step
                refine wpStill_nil ?_
                change wpList _ _ _ _ _ wr.drew
                go_wp2
                go_roundw
                case rel => exact ⟨t + 1, by omega, by go_num, (HFin.out _ HHit.out).1, (HFin.out _ HHit.out).2.1, (HFin.out _ HHit.out).2.2.drew⟩
                case measure => simp [intOf]; omega
              · rw [hq] at HC1 HHit
                rw [Bool.true_or] at HHit
                clear hq
                go_wp2
                go_still_tail 21, (by kernel_rfl)
                still_call (HC1.out wr.drew rfl)
                generalize hact : ({ tmps := _, defers := [] } : Act) = act
                repeat (refine wpStill_step (fun K hK => ?_); subst hact; go_simp; generalize hact : ({ tmps := _, defers := [] } : Act) = act; refine hK act ?_; clear hK K)
                refine wpStill_nil ?_
                change wpList _ _ _ _ _ wr.drew
                subst hact
                go_wp2
                go_roundw
                case rel => exact ⟨t + 1, by omega, by go_num, (HFin.out _ HHit.out).1, (HFin.out _ HHit.out).2.1, (HFin.out _ HHit.out).2.2.drew⟩
                case measure => simp [intOf]; omega
            · rw [List.take_of_length_le (by omega)] at ha
              obtain ⟨s9, hs9⟩ : ∃ s9, s9 = hitsS l ws od := ⟨_, rfl⟩
              have HL9 := Lib.hid (show s9.length = n by rw [hs9, hits_length]; exact HL.out)
              rw [← hs9] at ha
              have HS9 := Lib.hid (show suspS l ws = hitNames l s9 n by rw [hs9, ← HL.out]; exact HSu.out)
              have hbE := fr_call hbw (fr_call hb04 hbel2)
              have hsl9 := sl_call hsl4 hbel2 (Nat.le_refl _)
              have cx9 := hxb.cell (i := 0) rfl
              clear hs9 hws4 hsl4 hxb hbel2 hs7 hnd4 hP4 hM4 hbx4 hws0 hsl0 hE0
              obtain ⟨w9, rfl⟩ : ∃ w9, w9 = wr := ⟨_, rfl⟩
              have hwz := hbE.size
              have HWZ := Lib.hid hwz
              have hn5' : n ≤ 500 := hn5
              go_wp2
              go_loopw [16, 81] (fun v iv wx => ∃ k : Nat, k ≤ n ∧ iv = .int .i64 k ∧ RowK wx w9.heap.size 9 (fun _ => False) v (hitNames l s9 k) ∧ Below w9.heap.size w9 wx) (fun _ iv _ => n - (intOf iv).toNat)
              case atStart => exact ⟨0, Nat.zero_le _, rfl, RowK.nil, Below.refl _ _⟩
              case round =>
                obtain ⟨k, hk, rfl, hrow, hbel⟩ := hrel
                by_cases hlt : k < n
                · have hkI : (k : Int) < (n : Int) := by omega
                  obtain ⟨yv, hyv⟩ := at_lt (l := s9) (k := k) (by rw [HL9.out]; exact hlt)
                  have cC := (ha.call hbel).cell (i := k) (v := .bool yv) (by rw [List.getElem?_map, hyv]; rfl)
                  cases yv
                  · have HN := Lib.hid (hitNames_no (l := l) hyv)
                    have HR5 := Lib.hid hrow
                    clear hyv hrow
                    go_wp2
                    go_roundw
                    case rel => exact ⟨k + 1, by omega, by go_num, by rw [HN.out]; exact HR5.out, hbel⟩
                    case measure => simp [intOf]; omega
                  · obtain ⟨b4, o4, x, rfl, _, hx, hxs, cx⟩ := (hsl9.keep (keep_lt hbel)).ruleName hlt
                    have HN := Lib.hid (hitNames_yes hyv hx)
                    have hlen := hitNames_le l s9 k
                    obtain ⟨L, hL⟩ : ∃ L, L = hitNames l s9 k := ⟨_, rfl⟩
                    rw [← hL] at HN hrow hlen
                    clear hyv hx hL
                    have hW9 : Below wr.heap.size wr (wr.alloc (.cells #[.string x.name] 9)) := fr_alloc (fr_refl wr) _
                    obtain ⟨_, rows, hrows, hown9, hrep⟩ := hrow.call hW9
                    have hoth : ∀ b, Value.ownBlock u16 = some b → w9.heap.size ≤ b := fun b hb => (hrow.kind b hb).1
                    have H9 := Lib.hid hown9
                    have HRp := Lib.hid hrep
                    have hb9 := hbel.trans (hW9.mono hbel.size)
                    have hz1r := hbel.size
                    clear hrow hown9 hrep
                    go_wp2_with (at_builtin; refine wpList_append_lies _ rfl _ _ 23 rfl w9.heap.size 9 i0 _ 1 16 Tryz.underlying23 hi0 hz0 hz1 hz2 rfl (by decide) _ L.length _ rfl H9.out ⟨wr.heap.size, 0, none⟩ 1 1 [.string x.name] rfl rfl (new_cells wr #[_] _) (fun u hu => (by simp only [List.mem_cons, List.mem_nil_iff, or_false] at hu; subst hu; rfl)) (by decide) (by unfold maxLen; omega) (by omega) (by rw [World.size_alloc]; omega) _ rfl ?_)
                    intro g' cap w5 hown5 hg5 hat5 hlt5
                    have row5 := RowK.append (x := x.name) (r := [.string x.name]) (l := L) (fun k hh => hh.elim) hrows HRp.out ⟨rfl, hxs⟩ (fun _ _ hh => hh) hg5 hown5
                    rw [← HN.out] at row5
                    have hb5 := hb9.grown hg5 (by rw [World.size_alloc]; omega) fun b hb => hoth b hb
                    have HR5 := Lib.hid row5
                    clear row5 hown5 hg5 hat5 H9 HRp hb9 hW9 hlen hrows
                    go_wp2
                    go_roundw
                    case rel => exact ⟨k + 1, by omega, by go_num, HR5.out, hb5⟩
                    case measure => simp [intOf]; omega
                · have hkn : k = n := by omega
                  rw [hkn, ← HS9.out] at hrow
                  have HE := Lib.hid (SuspPost.good (w := w) HZ.out (hrow.weaken HWZ.out) (hbE.trans (hbel.mono HWZ.out)))
                  clear hrow
                  go_wp2
                  go_ret2
                  exact HE.out
  · have hne : (checkRulesS l == 0) = false := by rw [beq_eq_false_iff_ne]; exact hr0
    have HN := Lib.hid hr0
    have HV := Lib.hid (susp_bad (ws := ws) hr0)
    obtain rfl := hbad0 hr0
    clear hr0 hbad0 hgood0
    go_wp2
    go_ret2
    exact SuspPost.bad HV.out HN.out hbw
end Go.Proofs.Sm

namespace Go.Proofs.Sm
open Go.RowKit

theorem susp_both {l : List RuleV} {ws : List ByteArray} {w w' w1 w2 : World} {v1 v2 : Value}
    (hbad1 : suspErr l ws ≠ 0 → v1 = .slice none 0 0) (hbad2 : suspErr l ws ≠ 0 → v2 = .slice none 0 0)
    (hgood1 : suspErr l ws = 0 → RowK w1 w.heap.size 9 (fun _ => False) v1 (suspS l ws)) (b2 : Below w1.heap.size w1 w2)
    (hgood2 : suspErr l ws = 0 → RowK w2 w'.heap.size 9 (fun _ => False) v2 (suspS l ws)) :
    ∃ (A1 A2 : Option Addr) (k c1 c2 : Nat) (m : List ByteArray), v1 = .slice A1 k c1 ∧ v2 = .slice A2 k c2 ∧ Sl w2 (Lt w2.heap.size) A1 k m ∧ Sl w2 (Lt w2.heap.size) A2 k m := by
  by_cases h0 : suspErr l ws = 0
  · obtain ⟨A1, c1, e1, _, _, s1⟩ := (hgood1 h0).sl
    obtain ⟨A2, c2, e2, _, _, s2⟩ := (hgood2 h0).sl
    exact ⟨A1, A2, _, c1, c2, _, e1, e2, sl_call s1 b2 (Nat.le_refl _), s2⟩
  · exact ⟨none, none, 0, 0, 0, [], hbad1 h0, hbad2 h0, Sl.nil, Sl.nil⟩
set_option maxHeartbeats 1000000 in
set_option maxRecDepth 100000 in
theorem law_suspects (A B : Option Addr) (n c m d : Nat) (l : List RuleV) (ws : List ByteArray) (w : World) (hE : Env w) (hsl : Sl w (Lt w.heap.size) A n l) (hws : Sl w (Lt w.heap.size) B m ws) :
    Calls Tryz.prog 3 #[.slice A n c, .slice B m d] w fun e w' => e = .returned (.bool true) ∧ Below w.heap.size w w' := by
  go_enter Tryz.func3, Tryz.ntmps3
  go_wp2_with fail
  refine (steps_Suspects A B n c m d l ws w hE hsl hws).mono ?_
  rintro e w1 ⟨v1, rfl, hbad1, hgood1, b1⟩
  go_wp2_with fail
  refine (ref6_Suspects A B n c m d l ws w1 (hE.then_ b1) (sl_call hsl b1 (Nat.le_refl _)) (sl_call hws b1 (Nat.le_refl _))).mono ?_
  rintro e w2 ⟨v2, rfl, hbad2, hgood2, b2⟩
  have b12 := fr_call b1 b2
  obtain ⟨A1, A2, k, c1, c2, m1, rfl, rfl, s1, s2⟩ := susp_both hbad1 hbad2 hgood1 b2 hgood2
  clear hbad1 hbad2 hgood1 hgood2 b1 b2
  generalize suspErr l ws = f
  go_wp2_with fail
  refine (equal_strings A1 A2 k c1 c2 m1 w2 s1 s2).mono ?_
  rintro e w5 ⟨rfl, b5⟩
  have b15 := fr_call b12 b5
  go_wp2_with fail
  refine (law6_awake w5 (hE.then_ b15)).mono ?_
  rintro e w7 ⟨rfl, b7⟩
  go_wp2
  go_ret
  exact ⟨rfl, fr_call b15 b7⟩
end Go.Proofs.Sm

namespace Go.Proofs.Sm
open Go.RowKit

def aLook : Look := ⟨⟨#[97]⟩, ⟨#[]⟩, false⟩
def aFile : FileV := ⟨⟨#[97]⟩, false, []⟩
def bLook : Look := ⟨⟨#[97]⟩, ⟨#[99, 98, 102, 50, 57, 99, 101, 52, 56, 52, 50, 50, 50, 51, 50, 53]⟩, false⟩
theorem a_err : looksOfErr [aLook] [aFile] = 0 := by decide +kernel
theorem a_looks : looksOfS [aLook] [aFile] = [bLook] := sameLooksS_iff.1 (by decide +kernel)
theorem at_box3 {w : World} {g : Nat} {a b c : Value} (h : Box3 w g a b c) : At w g 0 [a, b, c] := by
  intro j v hv
  match j, hv with
  | 0, hv => cases hv; exact h.1.1
  | 1, hv => cases hv; exact h.1.2.1
  | 2, hv => cases hv; exact h.1.2.2
theorem one_look {w : World} {g : Nat} {x : Look} (h : Box3 w g (.string x.path) (.string x.digest) (.bool x.run)) (h1 : x.path.size ≤ maxLen) (h2 : x.digest.size ≤ maxLen) : Sl w (Lt w.heap.size) (some ⟨g, 0, none⟩) 1 [x] :=
  ⟨rfl, by unfold maxLen; decide, fun _ => ⟨g, 0, rfl, h.2.2, fun i y hy => by
    cases i with
    | zero => cases hy; exact ⟨_, ⟨rfl, h1, h2⟩, at_box3 h⟩
    | succ i => simp at hy⟩⟩
theorem one_file {w : World} {g : Nat} {x : FileV} (h : Box3 w g (.string x.path) (.bool x.run) (.slice none 0 0)) (h1 : x.path.size ≤ maxLen) (hb : x.bytes = []) : Sl w (Lt w.heap.size) (some ⟨g, 0, none⟩) 1 [x] :=
  ⟨rfl, by unfold maxLen; decide, fun _ => ⟨g, 0, rfl, h.2.2, fun i y hy => by
    cases i with
    | zero => cases hy; exact ⟨_, ⟨h1, none, 0, 0, rfl, Nat.le_refl _, Nat.zero_le _, by rw [hb]; exact Sl.nil⟩, at_box3 h⟩
    | succ i => simp at hy⟩⟩

end Go.Proofs.Sm

namespace Go.Proofs.Sm
open Go.RowKit Go.ChangeShapes Go.WideShapes Go.ChangeAt

theorem own : ownKnob Tryz.prog.godebug = none := by kernel_rfl
theorem laidOut : laidOutB Tryz.prog = true := by kernel_rfl

section
variable {H : Type} {enc : TypeId × Value → H} {w : World} {base : Nat} {spare : Nat → Bool} {held : Bool}
theorem at_some {α : Type} {xs : List α} {n i : Nat} (h : xs.length = n) (hi : i < n) : ∃ y, xs[i]? = some y := ⟨xs[i]'(by omega), List.getElem?_eq_getElem _⟩
theorem three_of {α : Type} {l : List α} (h : l.length = 3) : ∃ a b c, l = [a, b, c] := by
  rcases l with _ | ⟨a, _ | ⟨b, _ | ⟨c, _ | ⟨e, r⟩⟩⟩⟩
  · simp at h
  · simp at h
  · simp at h
  · exact ⟨a, b, c, rfl⟩
  · simp at h
theorem dec_look : Dec enc Tryz.prog w base spare held 102 Look := fun fuel cs d h => by
  obtain ⟨xs, n, _, _, hlen, hxl, hf⟩ := DataW.trod_struct Tryz.underlying102 h
  have hc : Tryz.prog.cellsOf 102 = 3 := by kernel_rfl
  have cS : Tryz.prog.cellsOf 9 = 1 := by kernel_rfl
  have cB : Tryz.prog.cellsOf 4 = 1 := by kernel_rfl
  rw [hc] at hlen
  have hxl' : xs.length = 3 := hxl
  obtain ⟨a, b, c, rfl⟩ := three_of hlen
  · -- the three cells
    obtain ⟨y0, e0⟩ := at_some hxl' (show 0 < 3 by decide)
    obtain ⟨y1, e1⟩ := at_some hxl' (show 1 < 3 by decide)
    obtain ⟨y2, e2⟩ := at_some hxl' (show 2 < 3 by decide)
    have f0 : DataW.trod enc Tryz.prog w base spare held n 9 [a] = some y0 := by
      have h := (hf 0 _ rfl).trans e0
      change DataW.trod enc _ w base spare held n 9 (List.take (Tryz.prog.cellsOf 9) (List.drop 0 [a, b, c])) = some y0 at h
      rw [cS] at h
      exact h
    have f1 : DataW.trod enc Tryz.prog w base spare held n 9 [b] = some y1 := by
      have h := (hf 1 _ rfl).trans e1
      change DataW.trod enc _ w base spare held n 9 (List.take (Tryz.prog.cellsOf 9) (List.drop 1 [a, b, c])) = some y1 at h
      rw [cS] at h
      exact h
    have f2 : DataW.trod enc Tryz.prog w base spare held n 4 [c] = some y2 := by
      have h := (hf 2 _ rfl).trans e2
      change DataW.trod enc _ w base spare held n 4 (List.take (Tryz.prog.cellsOf 4) (List.drop 2 [a, b, c])) = some y2 at h
      rw [cB] at h
      exact h
    obtain ⟨s0, h0, _, z0⟩ := DataW.trod_string Tryz.underlying9 f0
    obtain ⟨s1, h1, _, z1⟩ := DataW.trod_string Tryz.underlying9 f1
    obtain ⟨r, h2, _⟩ := DataW.trod_bool Tryz.underlying4 f2
    cases h0; cases h1; cases h2
    exact ⟨⟨s0, s1, r⟩, rfl, z0, z1⟩
theorem dec_bytes : Dec enc Tryz.prog w base spare held 112 (List UInt8) := dec_slice Tryz.underlying112 (by kernel_rfl) (by decide) (dec_u8 Tryz.underlying5)
theorem dec_file : Dec enc Tryz.prog w base spare held 151 FileV := fun fuel cs d h => by
  obtain ⟨xs, n, _, _, hlen, hxl, hf⟩ := DataW.trod_struct Tryz.underlying151 h
  have hc : Tryz.prog.cellsOf 151 = 3 := by kernel_rfl
  have cS : Tryz.prog.cellsOf 9 = 1 := by kernel_rfl
  have cB : Tryz.prog.cellsOf 4 = 1 := by kernel_rfl
  have cL : Tryz.prog.cellsOf 112 = 1 := by kernel_rfl
  rw [hc] at hlen
  have hxl' : xs.length = 3 := hxl
  obtain ⟨a, b, c, rfl⟩ := three_of hlen
  · -- the three cells
    obtain ⟨y0, e0⟩ := at_some hxl' (show 0 < 3 by decide)
    obtain ⟨y1, e1⟩ := at_some hxl' (show 1 < 3 by decide)
    obtain ⟨y2, e2⟩ := at_some hxl' (show 2 < 3 by decide)
    have f0 : DataW.trod enc Tryz.prog w base spare held n 9 [a] = some y0 := by
      have h := (hf 0 _ rfl).trans e0
      change DataW.trod enc _ w base spare held n 9 (List.take (Tryz.prog.cellsOf 9) (List.drop 0 [a, b, c])) = some y0 at h
      rw [cS] at h
      exact h
    have f1 : DataW.trod enc Tryz.prog w base spare held n 4 [b] = some y1 := by
      have h := (hf 1 _ rfl).trans e1
      change DataW.trod enc _ w base spare held n 4 (List.take (Tryz.prog.cellsOf 4) (List.drop 1 [a, b, c])) = some y1 at h
      rw [cB] at h
      exact h
    have f2 : DataW.trod enc Tryz.prog w base spare held n 112 [c] = some y2 := by
      have h := (hf 2 _ rfl).trans e2
      change DataW.trod enc _ w base spare held n 112 (List.take (Tryz.prog.cellsOf 112) (List.drop 2 [a, b, c])) = some y2 at h
      rw [cL] at h
      exact h
    obtain ⟨s0, h0, _, z0⟩ := DataW.trod_string Tryz.underlying9 f0
    obtain ⟨r, h1, _⟩ := DataW.trod_bool Tryz.underlying4 f1
    obtain ⟨bs, A, k, m, h2, q1, q2, q3⟩ := dec_bytes _ _ _ f2
    cases h0; cases h1; cases h2
    exact ⟨⟨s0, r, bs⟩, z0, A, k, m, rfl, q1, q2, q3⟩
theorem dec_looks : Dec enc Tryz.prog w base spare held 63 (List Look) := dec_slice Tryz.underlying63 (by kernel_rfl) (by decide) dec_look
theorem dec_files : Dec enc Tryz.prog w base spare held 64 (List FileV) := dec_slice Tryz.underlying64 (by kernel_rfl) (by decide) dec_file
/-- a slice argument, as a value -/
theorem arg_slice {α : Type} [Rep α] {t : TypeId} {v : Value} {d : DataW H} {p : List MemPlace} (hd : Dec enc Tryz.prog w base spare held t (List α)) (hv : ∃ a n c, v = .slice a n c) (h : DataW.Trod enc Tryz.prog w base spare held t v d p) :
    ∃ (A : Option Addr) (n c : Nat) (l : List α), v = .slice A n c ∧ Sl w (Lt w.heap.size) A n l := by
  obtain ⟨a, n, c, rfl⟩ := hv
  obtain ⟨fuel, hf⟩ := h
  obtain ⟨l, A, n', c', e, _, _, hs⟩ := hd _ _ _ hf
  simp [Value.cells] at e
  obtain ⟨rfl, rfl, rfl⟩ := e
  exact ⟨_, _, _, l, rfl, hs⟩
end
theorem first_pinned : Go.Pinned.utf8First = Lib.firstData := by kernel_rfl
theorem accept_laid : YtadokhhgljddkaaGreatDoor.Rows.laid_unicode_utf8_acceptRanges = Lib.acceptData := by kernel_rfl
/-- The tables of utf8, and the length that bytealg takes. -/
theorem env_of {laid : List (String × DataW Unit)} {W : World} (hL : laidMet Tryz.prog laid W) (hS : W.ShapedOpen Tryz.prog) (h3 : ("unicode/utf8.first", Go.Pinned.utf8First) ∈ laid) (h4 : ("unicode/utf8.acceptRanges", YtadokhhgljddkaaGreatDoor.Rows.laid_unicode_utf8_acceptRanges) ∈ laid) : Env W where
  size := by
    have hsome : (((begin Tryz.prog (fun _ _ => 0) default).world.heap[7]?).bind Obj.row?).isSome = true := by kernel_rfl
    have hlt : 7 < Tryz.prog.globals.size := of_decide_eq_true (by kernel_rfl)
    obtain ⟨⟨zero, t⟩, hz⟩ := Option.isSome_iff_exists.1 hsome
    obtain ⟨cs, hh, _⟩ := hS.1 _ zero t hlt hz
    exact (Array.getElem?_eq_some_iff.1 hh).1
  most := Tryz.laysM143.s1_3 W hS
  utf8 := utf8Tabs_of_reads { Tryz.lays260 with } ⟨by kernel_rfl, by kernel_rfl, by kernel_rfl, by kernel_rfl, by kernel_rfl, by kernel_rfl, by kernel_rfl⟩
    (by have := Lib.laidMet.reads hL h3; rwa [first_pinned] at this) (by have := Lib.laidMet.reads hL h4; rwa [accept_laid] at this)
end Go.Proofs.Sm

namespace Go.Proofs.Sm
open Go.RowKit Go.ChangeShapes Go.WideShapes Go.ChangeAt

section
variable {H : Type} {enc : TypeId × Value → H} {w : World} {base : Nat} {spare : Nat → Bool} {held : Bool}
theorem five_of {α : Type} {l : List α} (h : l.length = 5) : ∃ a b c d e, l = [a, b, c, d, e] := by
  rcases l with _ | ⟨a, _ | ⟨b, _ | ⟨c, _ | ⟨d, _ | ⟨e, _ | ⟨f, r⟩⟩⟩⟩⟩⟩
  all_goals (try (simp at h; done))
  exact ⟨a, b, c, d, e, rfl⟩
theorem result_of {cs : List Value} {fuel : Nat} {d : DataW H × List MemPlace} (h : DataW.trod enc Tryz.prog w base spare held fuel 66 cs = some d) :
    ∃ r A n c B m e, ResIs w r A n B m ∧ cs = [.int .i64 r.code, .string r.text, .slice A n c, .slice B m e, .int .i64 r.command] := by
  obtain ⟨xs, n, _, _, hlen, hxl, hf⟩ := DataW.trod_struct Tryz.underlying66 h
  have hc : Tryz.prog.cellsOf 66 = 5 := by kernel_rfl
  have cI : Tryz.prog.cellsOf 3 = 1 := by kernel_rfl
  have cS : Tryz.prog.cellsOf 9 = 1 := by kernel_rfl
  have cF : Tryz.prog.cellsOf 64 = 1 := by kernel_rfl
  have cL : Tryz.prog.cellsOf 63 = 1 := by kernel_rfl
  rw [hc] at hlen
  have hxl' : xs.length = 5 := hxl
  obtain ⟨a0, a1, a2, a3, a4, rfl⟩ := five_of hlen
  obtain ⟨y0, e0⟩ := at_some hxl' (show 0 < 5 by decide)
  obtain ⟨y1, e1⟩ := at_some hxl' (show 1 < 5 by decide)
  obtain ⟨y2, e2⟩ := at_some hxl' (show 2 < 5 by decide)
  obtain ⟨y3, e3⟩ := at_some hxl' (show 3 < 5 by decide)
  obtain ⟨y4, e4⟩ := at_some hxl' (show 4 < 5 by decide)
  have f0 : DataW.trod enc Tryz.prog w base spare held n 3 [a0] = some y0 := by
    have h := (hf 0 _ rfl).trans e0
    change DataW.trod enc _ w base spare held n 3 (List.take (Tryz.prog.cellsOf 3) (List.drop 0 [a0, a1, a2, a3, a4])) = some y0 at h
    rw [cI] at h
    exact h
  have f1 : DataW.trod enc Tryz.prog w base spare held n 9 [a1] = some y1 := by
    have h := (hf 1 _ rfl).trans e1
    change DataW.trod enc _ w base spare held n 9 (List.take (Tryz.prog.cellsOf 9) (List.drop 1 [a0, a1, a2, a3, a4])) = some y1 at h
    rw [cS] at h
    exact h
  have f2 : DataW.trod enc Tryz.prog w base spare held n 64 [a2] = some y2 := by
    have h := (hf 2 _ rfl).trans e2
    change DataW.trod enc _ w base spare held n 64 (List.take (Tryz.prog.cellsOf 64) (List.drop 2 [a0, a1, a2, a3, a4])) = some y2 at h
    rw [cF] at h
    exact h
  have f3 : DataW.trod enc Tryz.prog w base spare held n 63 [a3] = some y3 := by
    have h := (hf 3 _ rfl).trans e3
    change DataW.trod enc _ w base spare held n 63 (List.take (Tryz.prog.cellsOf 63) (List.drop 3 [a0, a1, a2, a3, a4])) = some y3 at h
    rw [cL] at h
    exact h
  have f4 : DataW.trod enc Tryz.prog w base spare held n 3 [a4] = some y4 := by
    have h := (hf 4 _ rfl).trans e4
    change DataW.trod enc _ w base spare held n 3 (List.take (Tryz.prog.cellsOf 3) (List.drop 4 [a0, a1, a2, a3, a4])) = some y4 at h
    rw [cI] at h
    exact h
  obtain ⟨n0, r0, z0⟩ := dec_int Tryz.underlying3 _ _ _ f0
  obtain ⟨s1, r1, z1⟩ := dec_string Tryz.underlying9 _ _ _ f1
  obtain ⟨l2, A, k2, c2, r2, _, _, z2⟩ := dec_files _ _ _ f2
  obtain ⟨l3, B, k3, c3, r3, _, _, z3⟩ := dec_looks _ _ _ f3
  obtain ⟨n4, r4, z4⟩ := dec_int Tryz.underlying3 _ _ _ f4
  cases r0; cases r1; cases r2; cases r3; cases r4
  exact ⟨⟨n0, s1, l2, l3, n4⟩, A, k2, c2, B, k3, c3, ⟨z0, z1, z2, z3, z4⟩, rfl⟩
end
theorem tab_of_reads {W : World} {name : String} {k : IntKind} {zs : List Int} {g : Nat} {t e : TypeId} {n : Nat} (hg : Tryz.prog.globalNamed name = some g) (hty : (Tryz.prog.globals[g]?).map (·.type) = some t)
    (ht : Tryz.prog.underlying t = some (.array n e)) (he : Tryz.prog.underlying e = some (.int k)) (hce : Tryz.prog.cellsOf e = 1) (hct : Tryz.prog.cellsOf t = n) (h : Lib.VarReads Tryz.prog W name (Lib.tabData k zs)) : Lib.TabIs Tryz.prog W name k zs := by
  obtain ⟨g', t', cs, fuel, p, hg', ht', hvar, hd⟩ := h
  obtain rfl := Option.some.inj (hg.symm.trans hg')
  obtain rfl := Option.some.inj (hty.symm.trans ht')
  unfold Lib.TabIs
  rw [hvar, ← Lib.cells_of_tab ht he hce hct hd]
theorem pow_laid : YtadokhhgljddkaaGreatDoor.Rows.laid_internal_strconv_uint64pow10 = Lib.tabData (H := Unit) .u64 Lib.pow10Tab := by kernel_rfl
theorem env2_of {laid : List (String × DataW Unit)} {W : World} (hL : laidMet Tryz.prog laid W) (hS : W.ShapedOpen Tryz.prog) (h3 : ("unicode/utf8.first", Go.Pinned.utf8First) ∈ laid) (h4 : ("unicode/utf8.acceptRanges", YtadokhhgljddkaaGreatDoor.Rows.laid_unicode_utf8_acceptRanges) ∈ laid)
    (h5 : ("internal/strconv.uint64pow10", YtadokhhgljddkaaGreatDoor.Rows.laid_internal_strconv_uint64pow10) ∈ laid) : Env2 W where
  toEnv := env_of hL hS h3 h4
  pow := tab_of_reads (g := 3) (t := 222) (e := 135) (n := 20) (by kernel_rfl) (by kernel_rfl) Tryz.underlying222 Tryz.underlying135 (by kernel_rfl) (by kernel_rfl) (by have := Lib.laidMet.reads hL h5; rwa [pow_laid] at this)
/-- the cells of plain data -/
def flatD : Nat → DataW Unit → List Value
  | 0, _ => []
  | _ + 1, .lit (.int k n) => [.int k n]
  | f + 1, .agg l => l.flatMap (flatD f)
  | _, _ => []
/-- THE WITNESS's WORLD: the settled one, with plain tables laid. -/
noncomputable def tableWorld (os : Os) (tabs : List (Nat × DataW Unit)) : World :=
  let w0 := World.holding Tryz.prog os ⟨#[], #[], []⟩
  { w0 with heap := tabs.foldl (fun h t => h.modify t.1 fun
    | .cells _ ty frozen => .cells (flatD 4 t.2).toArray ty frozen
    | o => o) w0.heap }
end Go.Proofs.Sm
