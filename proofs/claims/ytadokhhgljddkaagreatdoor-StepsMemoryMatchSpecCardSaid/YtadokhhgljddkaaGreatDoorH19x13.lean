/- Walks: what is remembered of a name, by the reference; what is remembered, compared. -/
import Derived.Test.YtadokhhgljddkaaGreatDoorH19x12
import Derived.Test.YtadokhhgljddkaaGreatDoorH19x2
import Derived.Test.YtadokhhgljddkaaGreatDoorH19x3
import Derived.Deep.RegionHeld3
import Derived.Test.YtadokhhgljddkaaGreatDoorH19x4
import Derived.Lib.Join
import Derived.Test.YtadokhhgljddkaaGreatDoorH19x11
namespace Go.Proofs.Sm
open Go.RowKit

/-- is a rule hit: by an input, or by one that it needs -/
def hitOne (l : List RuleV) (ws : List ByteArray) (s : List Bool) (k : Nat) : Bool := ((insAt l k).any fun p => hasB ws p) || (needAt (needsS l) k).any fun j => isOf s j
def hitsS (l : List RuleV) (ws : List ByteArray) (out : List Nat) : List Bool := out.foldl (fun s k => s.set k (hitOne l ws s k)) (List.replicate l.length false)
theorem hits_start (l : List RuleV) (ws : List ByteArray) : hitsS l ws [] = List.replicate l.length false := rfl
theorem hits_snoc (l : List RuleV) (ws : List ByteArray) (out : List Nat) (k : Nat) : hitsS l ws (out ++ [k]) = (hitsS l ws out).set k (hitOne l ws (hitsS l ws out) k) := by rw [hitsS, hitsS, List.foldl_append]; rfl
theorem hits_more {l : List RuleV} {ws : List ByteArray} {out : List Nat} {t k : Nat} (h : out[t]? = some k) : hitsS l ws (out.take (t + 1)) = (hitsS l ws (out.take t)).set k (hitOne l ws (hitsS l ws (out.take t)) k) := by
  rw [List.take_add_one, h]
  exact hits_snoc _ _ _ _
theorem foldl_length (f : List Bool → Nat → Bool) : ∀ (out : List Nat) (s : List Bool), (out.foldl (fun s k => s.set k (f s k)) s).length = s.length
  | [], _ => rfl
  | k :: r, s => by
    rw [List.foldl_cons, foldl_length f r, List.length_set]
theorem hits_length (l : List RuleV) (ws : List ByteArray) (out : List Nat) : (hitsS l ws out).length = l.length := by
  rw [hitsS, foldl_length (hitOne l ws)]; simp
theorem foldl_off (f : List Bool → Nat → Bool) {i : Nat} : ∀ (out : List Nat) (s : List Bool), i ∉ out → (out.foldl (fun s k => s.set k (f s k)) s)[i]? = s[i]?
  | [], _, _ => rfl
  | k :: r, s, h => by
    rw [List.foldl_cons, foldl_off f r _ fun hm => h (by simp [hm]), List.getElem?_set_ne fun e => h (by simp [e])]
/-- before its turn a rule is not hit -/
theorem hits_off {l : List RuleV} {ws : List ByteArray} {out : List Nat} {i : Nat} (hi : i < l.length) (h : i ∉ out) : (hitsS l ws out)[i]? = some false := by
  rw [hitsS, foldl_off (hitOne l ws) _ _ h, List.getElem?_replicate, if_pos hi]
/-- the names of those hit, of the first i -/
def hitNames (l : List RuleV) (s : List Bool) (i : Nat) : List ByteArray := namesAt l ((List.range i).filter (isOf s))
theorem hitNames_yes {l : List RuleV} {s : List Bool} {i : Nat} {x : RuleV} (h : s[i]? = some true) (hx : l[i]? = some x) : hitNames l s (i + 1) = hitNames l s i ++ [x.name] := by
  rw [hitNames, List.range_succ, List.filter_append, namesAt, List.map_append, ← nameAt_some hx]
  simp [isOf, h, hitNames, namesAt]
theorem hitNames_no {l : List RuleV} {s : List Bool} {i : Nat} (h : s[i]? = some false) : hitNames l s (i + 1) = hitNames l s i := by
  rw [hitNames, List.range_succ, List.filter_append]
  simp [isOf, h, hitNames]
theorem hitNames_le (l : List RuleV) (s : List Bool) (i : Nat) : (hitNames l s i).length ≤ i := by
  rw [hitNames, namesAt, List.length_map]
  have := List.length_filter_le (isOf s) (List.range i)
  simpa using this
/-- what stands against the question -/
def suspErr (l : List RuleV) (ws : List ByteArray) : Int := if checkRulesS l ≠ 0 then checkRulesS l else if 1000 < (ws.length : Int) then 2 else if ws.any (fun p => !isPathS p) then 3 else 0
/-- the rules of which each may be run again -/
def suspS (l : List RuleV) (ws : List ByteArray) : List ByteArray := hitNames l (hitsS l ws (orderS (needsS l) allTrue).1) l.length
theorem susp_bad {l : List RuleV} {ws : List ByteArray} (h : checkRulesS l ≠ 0) : suspErr l ws = checkRulesS l := by rw [suspErr, if_pos h]
theorem susp_large {l : List RuleV} {ws : List ByteArray} (h : checkRulesS l = 0) (h1 : (1000 : Int) < (ws.length : Int)) : suspErr l ws = 2 := by rw [suspErr, if_neg (by simp [h]), if_pos h1]
theorem susp_form {l : List RuleV} {ws : List ByteArray} {p : ByteArray} (h : checkRulesS l = 0) (h1 : ¬ (1000 : Int) < (ws.length : Int)) (hp : p ∈ ws) (h2 : isPathS p = false) : suspErr l ws = 3 := by
  rw [suspErr, if_neg (by simp [h]), if_neg h1, if_pos (List.any_eq_true.2 ⟨p, hp, by rw [h2]; rfl⟩)]
theorem susp_ok {l : List RuleV} {ws : List ByteArray} (h : checkRulesS l = 0) (h1 : ¬ (1000 : Int) < (ws.length : Int)) (h2 : ws.any (fun p => !isPathS p) = false) : suspErr l ws = 0 := by
  rw [suspErr, if_neg (by simp [h]), if_neg h1, if_neg (by rw [h2]; simp)]
def SuspPost (l : List RuleV) (ws : List ByteArray) (w : World) (e : Ending) (w' : World) : Prop :=
  ∃ v, e = .returned (.tuple #[v, .int .i64 (suspErr l ws)]) ∧ (suspErr l ws ≠ 0 → v = .slice none 0 0) ∧ (suspErr l ws = 0 → RowK w' w.heap.size 9 (fun _ => False) v (suspS l ws)) ∧ Below w.heap.size w w'
theorem SuspPost.bad {l : List RuleV} {ws : List ByteArray} {w w' : World} {f : Int} (hf : suspErr l ws = f) (h0 : f ≠ 0) (hb : Below w.heap.size w w') : SuspPost l ws w (.returned (.tuple #[.slice none 0 0, .int .i64 f])) w' :=
  ⟨_, by rw [hf], fun _ => rfl, fun h => absurd (hf.symm.trans h) h0, hb⟩
theorem SuspPost.good {l : List RuleV} {ws : List ByteArray} {w w' : World} {v : Value} (hf : suspErr l ws = 0) (hr : RowK w' w.heap.size 9 (fun _ => False) v (suspS l ws)) (hb : Below w.heap.size w w') : SuspPost l ws w (.returned (.tuple #[v, .int .i64 0])) w' :=
  ⟨_, by rw [hf], fun h => absurd hf h, fun _ => hr, hb⟩

/-! ### Rows are searched, and nothing is written -/
set_option maxRecDepth 100000 in
theorem indexFuncS (g : Nat) (eg : ∀ args w, (callFunc g args).run Tryz.prog w = .ok (.enter g args) w) (v : Value) (p : ByteArray → Bool) (A : Option Addr) (n c : Nat) (l : List ByteArray) (w : World) (hsl : Sl w (Lt w.heap.size) A n l)
    (hp : ∀ x, x.size ≤ maxLen → x ∈ l → Calls Tryz.prog g #[.string x, v] w fun e w' => e = .returned (.bool (p x)) ∧ w = w') :
    Calls Tryz.prog 50 #[.slice A n c, .func (.func g) #[] #[v]] w fun e w' => ∃ r : Int, e = .returned (.int .i64 r) ∧ decide (0 ≤ r) = l.any p ∧ w = w' := by
  go_enter Tryz.func50, Tryz.ntmps50
  have hm : n ≤ 9223372036854775807 := hsl.2.1
  have HP := Lib.hid hp; clear hp
  go_wp2
  go_loop [5, 8] (fun _ i => ∃ k : Nat, k ≤ n ∧ i = .int .i64 k ∧ (l.take k).any p = false) (fun _ i => n - (intOf i).toNat)
  case atStart => exact ⟨0, Nat.zero_le _, rfl, rfl⟩
  case round =>
    obtain ⟨k, hk, rfl, hall⟩ := hrel
    have H := Lib.hid hall; clear hall
    by_cases hlt : k < n
    · first | obtain ⟨b, o, x, rfl, hb, hx, hxs, c0⟩ := hsl.str hlt | obtain ⟨b, o, x, rfl, hb, hx, hxs, c0⟩ := hsl.nat hlt
      have Hx := Lib.hid hx; clear hx
      cases hq : p x
      · have HS := Lib.hid (any_step (p := p) Hx.out H.out hq)
        go_wp2_with fail
        refine (HP.out x hxs (List.mem_of_getElem? Hx.out)).mono ?_
        rintro e w1 ⟨rfl, rfl⟩
        rw [hq]
        go_wp2
        go_round
        case rel => exact ⟨k + 1, by omega, by go_num, HS.out⟩
        case measure => simp [intOf]; omega
      · have HS := Lib.hid (any_yes (p := p) Hx.out hq)
        go_wp2_with fail
        refine (HP.out x hxs (List.mem_of_getElem? Hx.out)).mono ?_
        rintro e w1 ⟨rfl, rfl⟩
        rw [hq]
        go_wp2
        go_ret
        exact ⟨k, rfl, by rw [HS.out]; simp, rfl⟩
    · have HS := Lib.hid (any_end (by rw [hsl.1]; omega) H.out)
      go_wp2
      go_ret
      exact ⟨-1, rfl, by rw [HS.out]; rfl, rfl⟩
theorem containsFuncS (g : Nat) (eg : ∀ args w, (callFunc g args).run Tryz.prog w = .ok (.enter g args) w) (v : Value) (p : ByteArray → Bool) (A : Option Addr) (n c : Nat) (l : List ByteArray) (w : World) (hsl : Sl w (Lt w.heap.size) A n l)
    (hp : ∀ x, x.size ≤ maxLen → x ∈ l → Calls Tryz.prog g #[.string x, v] w fun e w' => e = .returned (.bool (p x)) ∧ w = w') :
    Calls Tryz.prog 17 #[.slice A n c, .func (.func g) #[] #[v]] w fun e w' => e = .returned (.bool (l.any p)) ∧ w' = w := by
  have HC := Lib.hid (indexFuncS g eg v p A n c l w hsl hp)
  clear hp eg
  go_enter Tryz.func17, Tryz.ntmps17
  go_wp2_with (go_at_call 50; refine HC.out.mono ?_; rintro e w1 ⟨r, rfl, hr, rfl⟩; have HR := Lib.hid hr; clear hr)
  go_ret
  exact ⟨ret_bool HR.out, rfl⟩
set_option maxRecDepth 100000 in
theorem indexFuncN (g : Nat) (eg : ∀ args w, (callFunc g args).run Tryz.prog w = .ok (.enter g args) w) (v : Value) (p : Nat → Bool) (A : Option Addr) (n c : Nat) (l : List Nat) (w : World) (hsl : Sl w (Lt w.heap.size) A n l)
    (hp : ∀ x, x ≤ maxLen → x ∈ l → Calls Tryz.prog g #[.int .i64 (x : Int), v] w fun e w' => e = .returned (.bool (p x)) ∧ w = w') :
    Calls Tryz.prog 51 #[.slice A n c, .func (.func g) #[] #[v]] w fun e w' => ∃ r : Int, e = .returned (.int .i64 r) ∧ decide (0 ≤ r) = l.any p ∧ w = w' := by
  go_enter Tryz.func51, Tryz.ntmps51
  have hm : n ≤ 9223372036854775807 := hsl.2.1
  have HP := Lib.hid hp; clear hp
  go_wp2
  go_loop [5, 8] (fun _ i => ∃ k : Nat, k ≤ n ∧ i = .int .i64 k ∧ (l.take k).any p = false) (fun _ i => n - (intOf i).toNat)
  case atStart => exact ⟨0, Nat.zero_le _, rfl, rfl⟩
  case round =>
    obtain ⟨k, hk, rfl, hall⟩ := hrel
    have H := Lib.hid hall; clear hall
    by_cases hlt : k < n
    · first | obtain ⟨b, o, x, rfl, hb, hx, hxs, c0⟩ := hsl.str hlt | obtain ⟨b, o, x, rfl, hb, hx, hxs, c0⟩ := hsl.nat hlt
      have Hx := Lib.hid hx; clear hx
      cases hq : p x
      · have HS := Lib.hid (any_step (p := p) Hx.out H.out hq)
        go_wp2_with fail
        refine (HP.out x hxs (List.mem_of_getElem? Hx.out)).mono ?_
        rintro e w1 ⟨rfl, rfl⟩
        rw [hq]
        go_wp2
        go_round
        case rel => exact ⟨k + 1, by omega, by go_num, HS.out⟩
        case measure => simp [intOf]; omega
      · have HS := Lib.hid (any_yes (p := p) Hx.out hq)
        go_wp2_with fail
        refine (HP.out x hxs (List.mem_of_getElem? Hx.out)).mono ?_
        rintro e w1 ⟨rfl, rfl⟩
        rw [hq]
        go_wp2
        go_ret
        exact ⟨k, rfl, by rw [HS.out]; simp, rfl⟩
    · have HS := Lib.hid (any_end (by rw [hsl.1]; omega) H.out)
      go_wp2
      go_ret
      exact ⟨-1, rfl, by rw [HS.out]; rfl, rfl⟩
theorem containsFuncN (g : Nat) (eg : ∀ args w, (callFunc g args).run Tryz.prog w = .ok (.enter g args) w) (v : Value) (p : Nat → Bool) (A : Option Addr) (n c : Nat) (l : List Nat) (w : World) (hsl : Sl w (Lt w.heap.size) A n l)
    (hp : ∀ x, x ≤ maxLen → x ∈ l → Calls Tryz.prog g #[.int .i64 (x : Int), v] w fun e w' => e = .returned (.bool (p x)) ∧ w = w') :
    Calls Tryz.prog 19 #[.slice A n c, .func (.func g) #[] #[v]] w fun e w' => e = .returned (.bool (l.any p)) ∧ w' = w := by
  have HC := Lib.hid (indexFuncN g eg v p A n c l w hsl hp)
  clear hp eg
  go_enter Tryz.func19, Tryz.ntmps19
  go_wp2_with (go_at_call 51; refine HC.out.mono ?_; rintro e w1 ⟨r, rfl, hr, rfl⟩; have HR := Lib.hid hr; clear hr)
  go_ret
  exact ⟨ret_bool HR.out, rfl⟩
/-- the functions that are handed on -/
theorem susp1 (S : List (List UInt8)) (m nn g : Nat) (z : ByteArray) (w : World) (c0 : w.cell? ⟨g, 0, none⟩ = some (.map (some m))) (h0 : MapIs Tryz.prog 9 w m nn (setOf S)) (hz : z.size ≤ maxLen) :
    Calls Tryz.prog 18 #[.string z, .pointer (some ⟨g, 0, none⟩)] w fun e w' => e = .returned (.bool (decide (z.data.toList ∈ S))) ∧ w = w' := by
  have l0 := set_look h0 hz
  go_enter Tryz.func18, Tryz.ntmps18
  go_wp2
  go_ret
  exact ⟨rfl, rfl⟩
theorem susp2 (C : Addr) (n c g : Nat) (s : List Bool) (i : Nat) (w : World) (c0 : w.cell? ⟨g, 0, none⟩ = some (.slice (some C) n c)) (hs : Sl w (Lt w.heap.size) (some C) n s) (hi : i < n) :
    Calls Tryz.prog 20 #[.int .i64 (i : Int), .pointer (some ⟨g, 0, none⟩)] w fun e w' => e = .returned (.bool (isOf s i)) ∧ w = w' := by
  have hm : n ≤ 9223372036854775807 := hs.2.1
  obtain ⟨b, o, x, e1, _, hx, cx⟩ := hs.bool hi
  cases e1
  have hI : (i : Int) < (n : Int) := by omega
  have HV := Lib.hid (show isOf s i = x by rw [isOf, hx]; cases x <;> rfl)
  go_enter Tryz.func20, Tryz.ntmps20
  go_wp2
  go_ret
  exact ⟨by rw [HV.out]; rfl, rfl⟩
end Go.Proofs.Sm

namespace Go.Proofs.Sm
open Go.RowKit

set_option maxHeartbeats 4000000 in
set_option maxRecDepth 100000 in
theorem ref6_CheckMemory (A : Option Addr) (n c : Nat) (l : List MemoryV) (w : World) (hE : Env w) (hsl : Sl w (Lt w.heap.size) A n l) :
    Calls Tryz.prog 32 #[.slice A n c] w fun e w' => e = .returned (.int .i64 (checkMemoryS l)) ∧ Below w.heap.size w w' := by
  have hm : n ≤ 9223372036854775807 := hsl.2.1
  have HL := Lib.hid hsl.1
  by_cases hbig : (500 : Int) < (n : Int)
  · have HV := Lib.hid (mems_large (l := l) (by rw [HL.out]; exact hbig))
    go_enter Tryz.func32, Tryz.ntmps32
    go_wp2
    go_ret
    exact ⟨ret_int HV.out.symm, Below.refl _ _⟩
  have HA := Lib.hid (mems_all (l := l) (by rw [HL.out]; exact hbig))
  go_enter Tryz.func32, Tryz.ntmps32
  go_wp2
  go_loopw [3] (fun i wr => ∃ k : Nat, k ≤ n ∧ i = .int .i64 k ∧ listErr memErr MemoryV.name none l = listErr memErr MemoryV.name (ahead MemoryV.name l k) (l.drop k) ∧ Below w.heap.size w wr) (fun i _ => n - (intOf i).toNat)
  case atStart => exact ⟨0, Nat.zero_le _, rfl, rfl, Below.refl _ _⟩
  case round =>
    obtain ⟨k, hk, rfl, hd, hbel⟩ := hrel
    have Hr := Lib.hid hd; clear hd
    have hEr := hE.then_ hbel
    have hslr := sl_call hsl hbel (Nat.le_refl _)
    by_cases hlt : k < n
    · have hkI : (k : Int) < (n : Int) := by omega
      obtain ⟨b, o, x, rfl, hbb, hx, A1, n1, c1, A2, n2, c2, A3, n3, c3, ⟨z1, z2, z3, z4, z5⟩, _, ⟨s1, s2, s3⟩, q0, q1, q2, q3, q4, q5, q6, q7⟩ := hslr.memory hlt
      have HX := Lib.hid hx; clear hx
      have hres : ResIs wr x.result A2 n2 A3 n3 := ⟨z4, z3, s2, s3, z5⟩
      go_wp2_with fail
      generalize hW0 : wr.alloc (.cells #[.string x.name, .string x.action, .slice A1 n1 c1, .int .i64 x.result.code, .string x.result.text, .slice A2 n2 c2, .slice A3 n3 c3, .int .i64 x.result.command] 68) = W
      have hA0 : Arr W wr.heap.size 68 (memCells x A1 n1 c1 A2 n2 c2 A3 n3 c3) := by rw [← hW0]; exact mem_box ..
      have hb0 : Below wr.heap.size wr W := by rw [← hW0]; exact fr_alloc (fr_refl wr) _
      clear hW0 q1 q2 q3 q4 q5 q6 q7
      refine (ref1_IsPath x.name W (hEr.then_ hb0)).mono ?_
      rintro e w1 ⟨rfl, hb1⟩
      have hb01 := fr_call hb0 hb1
      have hA1 := hA0.call hb1
      have p1 := hA1.cell (i := 1) rfl
      clear hA0 hb0 hb1
      cases hp : isPathS x.name
      · have HV := Lib.hid (mems_stop HX.out (mem_form (by rw [hp]; rfl)) (by decide))
        have hbw := fr_call hbel hb01
        clear hp
        go_wp2
        go_ret
        exact ⟨ret_int (by rw [HA.out, Hr.out, HV.out]), hbw⟩
      go_wp2_with fail
      refine (ref1_IsDigest' x.action w1 z2).mono ?_
      rintro e w2 ⟨rfl, hb2⟩
      have hb02 := fr_call hb01 hb2
      have hA2 := hA1.call hb2
      have p2 := hA2.cell (i := 2) rfl
      clear hA1 hb2 hb01 p1
      cases hq : isDigestS x.action
      · have HV := Lib.hid (mems_stop HX.out (mem_form (by rw [hp, hq]; rfl)) (by decide))
        have hbw := fr_call hbel hb02
        clear hp hq
        go_wp2
        go_ret
        exact ⟨ret_int (by rw [HA.out, Hr.out, HV.out]), hbw⟩
      have HF := Lib.hid (show (isPathS x.name && isDigestS x.action) = true by rw [hp, hq]; rfl)
      clear hp hq
      go_wp2_with fail
      refine (ref5_CheckLooks A1 n1 c1 x.looks w2 (hEr.then_ hb02) (sl_call s1 hb02 (Nat.le_refl _))).mono ?_
      rintro e w3 ⟨rfl, hb3⟩
      have hb03 := fr_call hb02 hb3
      have hA3 := hA2.call hb3
      have p3 := hA3.cell (i := 3) rfl
      have p4 := hA3.cell (i := 4) rfl
      have p5 := hA3.cell (i := 5) rfl
      have p6 := hA3.cell (i := 6) rfl
      have p7 := hA3.cell (i := 7) rfl
      have hgl3 := hA3.lt
      clear hA2 hb3 hb02 p2
      cases h0 : (checkLooksS x.looks == 0)
      · have hne : checkLooksS x.looks ≠ 0 := by simpa using h0
        have hbn : (checkLooksS x.looks != 0) = true := by simpa using h0
        have HV := Lib.hid (mems_stop HX.out (mem_looks HF.out hne) hne)
        have hbw := fr_call hbel hb03
        clear hne
        go_wp2
        go_ret
        exact ⟨ret_int (by rw [HA.out, Hr.out, HV.out]), hbw⟩
      have hz : checkLooksS x.looks = 0 := by simpa using h0
      have hbn : (checkLooksS x.looks != 0) = false := by simpa using h0
      have HZ := Lib.hid hz; clear hz
      have HC := Lib.hid (ref5_CheckResult x.result A2 n2 c2 A3 n3 c3 w3 (hEr.then_ hb03) (hres.then_ hb03))
      unfold resVal at HC
      go_wp2_with fail
      refine HC.out.mono ?_
      rintro e w4 ⟨rfl, hb4⟩
      have hb04 := fr_call hb03 hb4
      have hA4 := hA3.call hb4
      have r2 := hA4.cell (i := 2) rfl
      have r3 := hA4.cell (i := 3) rfl
      have r6 := hA4.cell (i := 6) rfl
      clear hA3 hb4 hb03 p3 p4 p5 p6 p7 HC h0 hbn
      cases h0 : (checkResultS x.result == 0)
      · have hne : checkResultS x.result ≠ 0 := by simpa using h0
        have hbn : (checkResultS x.result != 0) = true := by simpa using h0
        have HV := Lib.hid (mems_stop HX.out (mem_result HF.out HZ.out hne) hne)
        have hbw := fr_call hbel hb04
        clear hne
        go_wp2
        go_ret
        exact ⟨ret_int (by rw [HA.out, Hr.out, HV.out]), hbw⟩
      have hz : checkResultS x.result = 0 := by simpa using h0
      have hbn : (checkResultS x.result != 0) = false := by simpa using h0
      have HR := Lib.hid (mem_rest HF.out HZ.out hz); clear hz
      cases hcode : (x.result.code == 0)
      · have hbc : (x.result.code != 0) = true := by simpa using hcode
        have HV := Lib.hid (mems_stop HX.out (show checkMemS x = 11 by rw [HR.out, if_pos (by simpa using hcode)]) (by decide))
        have hbw := fr_call hbel hb04
        go_wp2
        go_ret
        exact ⟨ret_int (by rw [HA.out, Hr.out, HV.out]), hbw⟩
      have hbc : (x.result.code != 0) = false := by simpa using hcode
      have HR2 := Lib.hid (show checkMemS x = if sameLooksS x.looks x.result.looks = false then 12 else 0 by rw [HR.out, if_neg (by simpa using hcode)])
      clear HR
      go_wp2_with fail
      refine (ref5_SameLooks A1 A3 n1 n3 c1 c3 x.looks x.result.looks w4 (sl_call s1 hb04 (Nat.le_refl _)) (sl_call s3 hb04 (Nat.le_refl _))).mono ?_
      rintro e w5 ⟨rfl, hb5⟩
      have hb05 := fr_call hb04 hb5
      have hA5 := hA4.call hb5
      have hbw := fr_call hbel hb05
      have pn := hA5.cell (i := 0) rfl
      clear hA4 hb5 hb04 r2 r3 r6 hcode hbc h0 hbn
      cases hsame : sameLooksS x.looks x.result.looks
      · have HV := Lib.hid (mems_stop HX.out (show checkMemS x = 12 by rw [HR2.out, if_pos hsame]) (by decide))
        clear hsame
        go_wp2
        go_ret
        exact ⟨ret_int (by rw [HA.out, Hr.out, HV.out]), hbw⟩
      have HO := Lib.hid (mems_rest (prev := ahead MemoryV.name l k) (show checkMemS x = 0 by rw [HR2.out, if_neg (by rw [hsame]; decide)]))
      clear hsame
      by_cases hk0 : 0 < k
      · have hg0 : decide ((0 : Int) < (k : Int)) = true := by simpa using hk0
        obtain ⟨_, _, z, e0, hbz, hy, _, _, _, _, _, _, _, _, _, _, _, _, d0, _⟩ := hslr.memory (k := k - 1) (by omega)
        cases e0
        have HAh := Lib.hid (ahead_pos (f := MemoryV.name) hk0 hy); clear hy
        have hbw0 : b < wr.heap.size := hbz
        have d1 : w5.cell? ⟨b, o + (k - 1) * 8, none⟩ = some (.string z.name) := by rw [hb05.cell (by exact hbw0)]; exact d0
        cases hle : leS x.name z.name
        · have HV := Lib.hid (show memErr (ahead MemoryV.name l k) x = 0 by rw [HO.out, HAh.out]; simp [notAfter, hle])
          have hle' := leS_false hle
          go_wp2
          have g1 := IntWalk.i64_in ((k : Int) - 1) ⟨by omega, by omega⟩; have g2 : ((k : Int) - 1).toNat = k - 1 := (by omega); have g3 : (0 : Int) ≤ (k : Int) - 1 := (by omega); have g4 : (k : Int) - 1 < (n : Int) := (by omega)
          go_quiet (fail)
          clear g1 g2 g3 g4
          go_wp2
          go_roundw
          case rel => exact ⟨k + 1, by omega, by go_num, by rw [Hr.out]; exact list_round HX.out HV.out, below_drewN hbw _⟩
          case measure => simp [intOf]; omega
        · have HV := Lib.hid (list_stop (key := MemoryV.name) HX.out (show memErr (ahead MemoryV.name l k) x = 8 by rw [HO.out, HAh.out]; simp [notAfter, hle]) (by decide))
          have hle' := leS_true hle
          go_wp2
          have g1 := IntWalk.i64_in ((k : Int) - 1) ⟨by omega, by omega⟩; have g2 : ((k : Int) - 1).toNat = k - 1 := (by omega); have g3 : (0 : Int) ≤ (k : Int) - 1 := (by omega); have g4 : (k : Int) - 1 < (n : Int) := (by omega)
          go_quiet (fail)
          clear g1 g2 g3 g4
          go_wp2
          go_ret
          exact ⟨ret_int (by rw [HA.out, Hr.out, HV.out]), below_drewN hbw _⟩
      · have hg0 : decide ((0 : Int) < (k : Int)) = false := by simpa using hk0
        have HV := Lib.hid (show memErr (ahead MemoryV.name l k) x = 0 by rw [HO.out, show ahead MemoryV.name l k = none by simp [ahead]; omega]; rfl)
        go_wp2
        go_quiet (fail)
        go_wp2
        go_roundw
        case rel => exact ⟨k + 1, by omega, by go_num, by rw [Hr.out]; exact list_round HX.out HV.out, below_drewN hbw _⟩
        case measure => simp [intOf]; omega
    · have HV := Lib.hid (show listErr memErr MemoryV.name none l = 0 by rw [Hr.out, list_end (by rw [HL.out]; omega)])
      go_wp2
      go_ret
      exact ⟨ret_int (by rw [HA.out, HV.out]), hbel⟩
end Go.Proofs.Sm

namespace Go.Proofs.Sm
open Go.RowKit

def aLook : Look := ⟨⟨#[97]⟩, ⟨#[]⟩, false⟩
def aFile : FileV := ⟨⟨#[97]⟩, false, []⟩
def bLook : Look := ⟨⟨#[97]⟩, ⟨#[99, 98, 102, 50, 57, 99, 101, 52, 56, 52, 50, 50, 50, 51, 50, 53]⟩, false⟩
theorem a_err : looksOfErr [aLook] [aFile] = 0 := by decide +kernel
theorem a_looks : looksOfS [aLook] [aFile] = [bLook] := sameLooksS_iff.1 (by decide +kernel)
theorem at_box3 {w : World} {g : Nat} {a b c : Value} (h : Box3 w g a b c) : At w g 0 [a, b, c] := by
  intro j v hv
  match j, hv with
  | 0, hv => cases hv; exact h.1.1
  | 1, hv => cases hv; exact h.1.2.1
  | 2, hv => cases hv; exact h.1.2.2
theorem one_look {w : World} {g : Nat} {x : Look} (h : Box3 w g (.string x.path) (.string x.digest) (.bool x.run)) (h1 : x.path.size ≤ maxLen) (h2 : x.digest.size ≤ maxLen) : Sl w (Lt w.heap.size) (some ⟨g, 0, none⟩) 1 [x] :=
  ⟨rfl, by unfold maxLen; decide, fun _ => ⟨g, 0, rfl, h.2.2, fun i y hy => by
    cases i with
    | zero => cases hy; exact ⟨_, ⟨rfl, h1, h2⟩, at_box3 h⟩
    | succ i => simp at hy⟩⟩
theorem one_file {w : World} {g : Nat} {x : FileV} (h : Box3 w g (.string x.path) (.bool x.run) (.slice none 0 0)) (h1 : x.path.size ≤ maxLen) (hb : x.bytes = []) : Sl w (Lt w.heap.size) (some ⟨g, 0, none⟩) 1 [x] :=
  ⟨rfl, by unfold maxLen; decide, fun _ => ⟨g, 0, rfl, h.2.2, fun i y hy => by
    cases i with
    | zero => cases hy; exact ⟨_, ⟨h1, none, 0, 0, rfl, Nat.le_refl _, Nat.zero_le _, by rw [hb]; exact Sl.nil⟩, at_box3 h⟩
    | succ i => simp at hy⟩⟩

end Go.Proofs.Sm

namespace Go.Proofs.Sm
open Go.RowKit

theorem bytes_Equal (A A' : Option Addr) (n n' c c' : Nat) (l : List UInt8) (w : World) (S : Nat → Prop) (h : Sl w S A n l) (h' : Sl w S A' n' l) :
    Calls Tryz.prog 150 #[.slice A n c, .slice A' n' c'] w fun e w' => e = .returned (.bool true) ∧ w = w' := by
  have r1 := run_bytes_string (P := Tryz.prog) h 112 9 5 c Tryz.underlying112 Tryz.underlying5 Tryz.underlying9
  have r2 := run_bytes_string (P := Tryz.prog) h' 112 9 5 c' Tryz.underlying112 Tryz.underlying5 Tryz.underlying9
  generalize (⟨l.toArray⟩ : ByteArray) = s at r1 r2
  go_enter Tryz.func150, Tryz.ntmps150
  go_wp2
  go_ret
  exact ⟨rfl, rfl⟩
set_option maxRecDepth 100000 in
theorem ref1_SameFile (x : FileV) (A A' : Option Addr) (n n' c c' : Nat) (w : World) (h : Sl w (Lt w.heap.size) A n x.bytes) (h' : Sl w (Lt w.heap.size) A' n' x.bytes) :
    Calls Tryz.prog 115 #[.agg #[.string x.path, .bool x.run, .slice A n c], .agg #[.string x.path, .bool x.run, .slice A' n' c']] w fun e w' => e = .returned (.bool true) ∧ Below w.heap.size w w' := by
  go_enter Tryz.func115, Tryz.ntmps115
  go_wp2_with fail
  have hb := fr_alloc (fr_alloc (fr_refl w) (.cells #[.string x.path, .bool x.run, .slice A n c] 151)) (.cells #[.string x.path, .bool x.run, .slice A' n' c'] 151)
  refine (bytes_Equal A A' n n' c c' x.bytes _ (Lt w.heap.size) (h.keep (keep_lt hb)) (h'.keep (keep_lt hb))).mono ?_
  rintro e w1 ⟨rfl, rfl⟩
  go_wp2
  go_ret
  exact ⟨rfl, hb⟩
set_option maxRecDepth 100000 in
theorem ref1_SameFiles (A A' : Option Addr) (n c c' : Nat) (l : List FileV) (w : World) (h : Sl w (Lt w.heap.size) A n l) (h' : Sl w (Lt w.heap.size) A' n l) :
    Calls Tryz.prog 77 #[.slice A n c, .slice A' n c'] w fun e w' => e = .returned (.bool true) ∧ Below w.heap.size w w' := by
  have hm : n ≤ 9223372036854775807 := h.2.1
  go_enter Tryz.func77, Tryz.ntmps77
  go_wp2
  go_loopw [5] (fun i wr => ∃ k : Nat, k ≤ n ∧ i = .int .i64 k ∧ Below w.heap.size w wr) (fun i _ => n - (intOf i).toNat)
  case atStart => exact ⟨0, Nat.zero_le _, rfl, fr_refl w⟩
  case round =>
    obtain ⟨k, hk, rfl, hbel⟩ := hrel
    by_cases hlt : k < n
    · obtain ⟨g1, o1, x1, A1, n1, c1, rfl, hb1, hx1, hp1, _, _, s1, p0, p1, p2⟩ := (h.keep (keep_lt hbel)).file hlt
      obtain ⟨g2, o2, x2, A2, n2, c2, rfl, hb2, hx2, hp2, _, _, s2, q0, q1, q2⟩ := (h'.keep (keep_lt hbel)).file hlt
      obtain rfl : x1 = x2 := by rw [hx1] at hx2; exact Option.some.inj hx2
      have hkI : (k : Int) < (n : Int) := by omega
      have hg1 : g1 < w.heap.size := hb1
      have hg2 : g2 < w.heap.size := hb2
      have HK := Lib.hid (show ∀ w', Below w.heap.size w w' → (Below w.heap.size w w' ∧ w'.cell? ⟨g1, o1 + k * 3, none⟩ = some (.string x1.path) ∧ w'.cell? ⟨g1, o1 + k * 3 + 1, none⟩ = some (.bool x1.run) ∧ w'.cell? ⟨g1, o1 + k * 3 + 2, none⟩ = some (.slice A1 n1 c1) ∧
          w'.cell? ⟨g2, o2 + k * 3, none⟩ = some (.string x1.path) ∧ w'.cell? ⟨g2, o2 + k * 3 + 1, none⟩ = some (.bool x1.run) ∧ w'.cell? ⟨g2, o2 + k * 3 + 2, none⟩ = some (.slice A2 n2 c2)) from fun w' hw => by
        have e1 : ∀ o, w'.cell? ⟨g1, o, none⟩ = _ := fun o => (hw.cell (p := ⟨g1, o, none⟩) hg1).trans (hbel.cell (p := ⟨g1, o, none⟩) hg1).symm
        have e2 : ∀ o, w'.cell? ⟨g2, o, none⟩ = _ := fun o => (hw.cell (p := ⟨g2, o, none⟩) hg2).trans (hbel.cell (p := ⟨g2, o, none⟩) hg2).symm
        exact ⟨hw, (e1 _).trans p0, (e1 _).trans p1, (e1 _).trans p2, (e2 _).trans q0, (e2 _).trans q1, (e2 _).trans q2⟩)
      have hs1 : ∀ w', Below w.heap.size w w' → Sl w' (Lt w'.heap.size) A1 n1 x1.bytes := fun w' hw => ((s1.keep (fun q hq => (hw.block q hq).trans (hbel.block q hq).symm)).more (lt_mono hw.size))
      have hs2 : ∀ w', Below w.heap.size w w' → Sl w' (Lt w'.heap.size) A2 n2 x1.bytes := fun w' hw => ((s2.keep (fun q hq => (hw.block q hq).trans (hbel.block q hq).symm)).more (lt_mono hw.size))
      have HC := Lib.hid (fun w' (hw : Below w.heap.size w w') => ref1_SameFile x1 A1 A2 n1 n2 c1 c2 w' (hs1 w' hw) (hs2 w' hw))
      clear hs1 hs2 hx1 hx2 p0 p1 p2 q0 q1 q2 s1 s2
      obtain ⟨_, p0, p1, p2, q0, q1, q2⟩ := HK.out _ hbel
      go_wp2
      go_region_held3 (fun w' => Below w.heap.size w w' ∧ w'.cell? ⟨g1, o1 + k * 3, none⟩ = some (.string x1.path) ∧ w'.cell? ⟨g1, o1 + k * 3 + 1, none⟩ = some (.bool x1.run) ∧ w'.cell? ⟨g1, o1 + k * 3 + 2, none⟩ = some (.slice A1 n1 c1) ∧
          w'.cell? ⟨g2, o2 + k * 3, none⟩ = some (.string x1.path) ∧ w'.cell? ⟨g2, o2 + k * 3 + 1, none⟩ = some (.bool x1.run) ∧ w'.cell? ⟨g2, o2 + k * 3 + 2, none⟩ = some (.slice A2 n2 c2))
        (first | assumption | exact HK.out _ hbel.drew | exact HK.out _ (fr_call (And.left (by assumption)) hbc))
        (first | (go_at_call 115; refine (HC.out _ (And.left (by assumption))).mono ?_; rintro e wc ⟨rfl, hbc⟩))
      have hb9 : Below w.heap.size w wc := And.left (by assumption)
      go_wp2
      go_roundw
      case rel => exact ⟨k + 1, by omega, by go_num, hb9⟩
      case measure => simp [intOf]; omega
    · go_wp2
      go_ret
      exact ⟨rfl, hbel⟩
set_option maxHeartbeats 1000000 in
set_option maxRecDepth 100000 in
theorem ref5_SameResult (r : ResultV) (A A' : Option Addr) (n n' c c' : Nat) (B B' : Option Addr) (m m' d d' : Nat) (w : World) (h : ResIs w r A n B m) (h' : ResIs w r A' n' B' m') :
    Calls Tryz.prog 42 #[resVal r A n c B m d, resVal r A' n' c' B' m' d'] w fun e w' => e = .returned (.bool true) ∧ Below w.heap.size w w' := by
  have hn : n' = n := by rw [← h'.files.1, ← h.files.1]
  subst hn
  have hs := sameLooksS_iff.2 (rfl : r.looks = r.looks)
  have HF := Lib.hid (fun w' (hb : Below w.heap.size w w') => ref1_SameFiles A A' n' c c' r.files w' (h.then_ hb).files (h'.then_ hb).files)
  have HL := Lib.hid (fun w' (hb : Below w.heap.size w w') => ref5_SameLooks B B' m m' d d' r.looks r.looks w' (h.then_ hb).looks (h'.then_ hb).looks)
  rw [hs] at HL
  unfold resVal
  have hb0 := fr_alloc (fr_alloc (fr_refl w) (.cells #[.int .i64 r.code, .string r.text, .slice A n' c, .slice B m d, .int .i64 r.command] 66)) (.cells #[.int .i64 r.code, .string r.text, .slice A' n' c', .slice B' m' d', .int .i64 r.command] 66)
  go_enter Tryz.func42, Tryz.ntmps42
  go_wp2_with fail
  refine (HF.out _ hb0).mono ?_
  rintro e w1 ⟨rfl, hb1⟩
  obtain ⟨hc1, hf1⟩ := bcell hb1
  have hz1 := hb1.size
  have hb2 := fr_call hb0 hb1
  have hsz : w.heap.size + 2 ≤ w1.heap.size := by simpa using hz1
  have e1 : w1.heap[w.heap.size]? = some (.cells #[.int .i64 r.code, .string r.text, .slice A n' c, .slice B m d, .int .i64 r.command] 66 (0, 0)) :=
    (hb1.block _ (by simp; omega)).trans (((fr_alloc (fr_refl (w.alloc _)) _).block w.heap.size (by simp)).trans (heap_alloc_new w _))
  have e2 : w1.heap[w.heap.size + 1]? = some (.cells #[.int .i64 r.code, .string r.text, .slice A' n' c', .slice B' m' d', .int .i64 r.command] 66 (0, 0)) := by
    have := heap_alloc_new (w.alloc (.cells #[.int .i64 r.code, .string r.text, .slice A n' c, .slice B m d, .int .i64 r.command] 66)) (.cells #[.int .i64 r.code, .string r.text, .slice A' n' c', .slice B' m' d', .int .i64 r.command] 66 (0, 0))
    rw [World.size_alloc] at this
    exact (hb1.block _ (by simp)).trans this
  have k3 : w1.cell? ⟨w.heap.size, 3, none⟩ = some (.slice B m d) := by rw [Lib.cell_of_heap e1]; rfl
  have k4 : w1.cell? ⟨w.heap.size, 4, none⟩ = some (.int .i64 r.command) := by rw [Lib.cell_of_heap e1]; rfl
  have j3 : w1.cell? ⟨w.heap.size + 1, 3, none⟩ = some (.slice B' m' d') := by rw [Lib.cell_of_heap e2]; rfl
  have j4 : w1.cell? ⟨w.heap.size + 1, 4, none⟩ = some (.int .i64 r.command) := by rw [Lib.cell_of_heap e2]; rfl
  clear e1 e2 hc1 hf1
  go_wp2_with fail
  refine (HL.out _ hb2).mono ?_
  rintro e w2 ⟨rfl, hb3⟩
  have k4' := (hb3.cell (p := ⟨w.heap.size, 4, none⟩) (show w.heap.size < _ by omega)).trans k4
  have j4' := (hb3.cell (p := ⟨w.heap.size + 1, 4, none⟩) (show w.heap.size + 1 < _ by omega)).trans j4
  go_wp2
  go_ret
  exact ⟨rfl, fr_call hb2 hb3⟩
end Go.Proofs.Sm

namespace Go.Proofs.Sm
open Go.RowKit

def joinS (ws : List ByteArray) : List UInt8 := Lib.join (ws.map (·.data.toList)) [32]
def lineW (ws : List ByteArray) : List UInt8 := joinS ws ++ [10]
def cmdL (c : List ByteArray) : List UInt8 := [100, 111, 32] ++ joinS c ++ [10]
def varL (v : VarV) : List UInt8 := [118, 97, 114, 32] ++ v.name.data.toList ++ [32] ++ v.value.data.toList ++ [10]
def needL (v : VarV) : List UInt8 := [110, 101, 101, 100, 32] ++ v.name.data.toList ++ [32] ++ v.value.data.toList ++ [10]
def outL (p : ByteArray) : List UInt8 := [111, 117, 116, 32] ++ p.data.toList ++ [10]
def toolL (a : ActionV) : List UInt8 := [116, 111, 111, 108, 32] ++ a.tool.data.toList ++ [10]
def timeL (a : ActionV) : List UInt8 := [116, 105, 109, 101, 32] ++ Lib.itoa a.time ++ [10]
def actTextL (a : ActionV) : List UInt8 := toolL a ++ a.commands.flatMap cmdL ++ a.vars.flatMap varL ++ a.outputs.flatMap outL ++ a.needs.flatMap needL ++ timeL a
theorem joinS_two (x y : ByteArray) : joinS [x, y] = x.data.toList ++ [32] ++ y.data.toList := by simp [joinS, Lib.join_cons, Lib.joinTail]
theorem joinS_three (x y z : ByteArray) : joinS [x, y, z] = x.data.toList ++ [32] ++ y.data.toList ++ [32] ++ z.data.toList := by simp [joinS, Lib.join_cons, Lib.joinTail]
theorem joinS_length (m : Nat) (ws : List ByteArray) (h : ∀ x ∈ ws, x.size ≤ m) : (joinS ws).length ≤ (m + 1) * ws.length := by
  cases ws with
  | nil => simp [joinS, Lib.join]
  | cons a l =>
    have h1 := flatMap_length (f := fun x : ByteArray => [32] ++ x.data.toList) (m := m + 1) (l := l) (fun x hx => by
      have h2 := h x (by simp [hx])
      have h3 : x.data.toList.length = x.size := by simp
      simp only [List.length_append, List.length_cons, List.length_nil, h3]; omega)
    have h2 := h a (by simp)
    have h3 : a.data.toList.length = a.size := by simp
    have h4 : Lib.joinTail [32] (l.map (·.data.toList)) = l.flatMap fun x : ByteArray => [32] ++ x.data.toList := by
      simp [Lib.joinTail, List.flatMap, Function.comp_def]
    rw [joinS, List.map_cons, Lib.join_cons, List.length_append, h3, h4, List.length_cons, Nat.mul_succ]
    omega
theorem listErr_all' {α : Type} {err : Option ByteArray → α → Int} {key : α → ByteArray} {l : List α} : ∀ prev, listErr err key prev l = 0 → ∀ x ∈ l, ∃ q, err q x = 0 := by
  induction l with
  | nil => intro _ _ x hx; simp at hx
  | cons a l ih =>
    intro prev h x hx
    rw [listErr] at h
    split at h
    · rename_i h0
      rcases List.mem_cons.1 hx with rfl | hx
      · exact ⟨_, h0⟩
      · exact ih _ h x hx
    · exact absurd h ‹_›
structure ActOk (a : ActionV) : Prop where
  tool : a.tool.size ≤ 16
  commands : a.commands.length ≤ 50
  words : ∀ c ∈ a.commands, c.length ≤ 50 ∧ ∀ s ∈ c, s.size ≤ 300
  vars : a.vars.length ≤ 30
  var : ∀ v ∈ a.vars, v.name.size ≤ 40 ∧ v.value.size ≤ 300
  outputs : a.outputs.length ≤ 100
  output : ∀ p ∈ a.outputs, p.size ≤ 200
  needs : a.needs.length ≤ 30
  need : ∀ v ∈ a.needs, v.name.size ≤ 40 ∧ v.value.size ≤ 300
  time : 1 ≤ a.time ∧ a.time ≤ 100000
theorem commandsErr_all {l : List (List ByteArray)} (h : commandsErr l = 0) : ∀ c ∈ l, checkCommandS c = 0 := by
  induction l with
  | nil => intro x hx; simp at hx
  | cons a l ih =>
    rw [commandsErr] at h
    split at h
    · rename_i h0
      intro x hx
      rcases List.mem_cons.1 hx with rfl | hx
      · exact h0
      · exact ih h x hx
    · exact absurd h ‹_›
theorem command_ok {c : List ByteArray} (h : checkCommandS c = 0) : c.length ≤ 50 ∧ ∀ s ∈ c, s.size ≤ 300 := by
  unfold checkCommandS at h
  split at h
  · omega
  · rename_i h1
    refine ⟨by omega, ?_⟩
    cases c with
    | nil => intro s hs; simp at hs
    | cons c0 words =>
      simp only at h
      split at h
      · omega
      · rename_i h2
        simp only [Bool.not_eq_false, List.all_eq_true] at h2
        intro s hs
        have := withinB_true (Bool.and_eq_true_iff.1 (h2 s hs)).2
        omega
theorem vars_ok {l : List VarV} (h : checkVarsS l = 0) : l.length ≤ 30 ∧ ∀ v ∈ l, v.name.size ≤ 40 ∧ v.value.size ≤ 300 := by
  unfold checkVarsS at h
  split at h
  · omega
  · refine ⟨by omega, fun v hv => ?_⟩
    obtain ⟨q, hq⟩ := listErr_all' _ h v hv
    unfold varErr at hq
    split at hq
    · omega
    · split at hq
      · omega
      · rename_i h1 h2
        simp only [Bool.not_eq_false, isNameS, Bool.and_eq_true] at h1
        have := withinB_true h1.1.1.1
        simp only [Bool.or_eq_true, decide_eq_true_eq, not_or] at h2
        omega
theorem outputs_ok {l : List ByteArray} (h : checkOutputsS l = 0) : l.length ≤ 100 ∧ ∀ v ∈ l, v.size ≤ 200 := by
  unfold checkOutputsS at h
  split at h
  · omega
  · split at h
    · omega
    · split at h
      · rename_i h1; exact absurd h h1
      · rename_i h0 h1 h2
        refine ⟨by omega, fun v hv => ?_⟩
        obtain ⟨q, hq⟩ := listErr_all' _ (Classical.not_not.1 h2) v hv
        unfold outErr at hq
        split at hq
        · omega
        · rename_i h3; exact path_size (by simpa using h3)
theorem checkAction_ok {a : ActionV} (h : checkActionS a = 0) : ActOk a := by
  unfold checkActionS at h
  split at h
  · omega
  · split at h
    · omega
    · split at h
      · omega
      · split at h
        · rename_i h1; exact absurd h h1
        · split at h
          · rename_i h1; exact absurd h h1
          · split at h
            · rename_i h1; exact absurd h h1
            · split at h
              · rename_i h1; exact absurd h h1
              · split at h
                · omega
                · rename_i h1 h2 h3 h4 h5 h6 h7 h8
                  have g4 := Classical.not_not.1 h4
                  have g5 := vars_ok (Classical.not_not.1 h5)
                  have g6 := outputs_ok (Classical.not_not.1 h6)
                  have g7 := vars_ok (Classical.not_not.1 h7)
                  refine ⟨digest_size (.inr (by simpa using h1)), by omega, fun c hc => command_ok (commandsErr_all g4 c hc), g5.1, g5.2, g6.1, g6.2, g7.1, g7.2, withinB_true (by simpa using h8)⟩
theorem cmdL_length {c : List ByteArray} (h : c.length ≤ 50 ∧ ∀ s ∈ c, s.size ≤ 300) : (joinS c).length ≤ 15050 := by
  have h1 := joinS_length 300 c h.2
  have : 301 * c.length ≤ 301 * 50 := Nat.mul_le_mul_left _ h.1
  omega
theorem flatMap_take {α : Type} {f : α → List UInt8} {m q : Nat} {l : List α} (hq : l.length ≤ q) (h : ∀ x ∈ l, (f x).length ≤ m) (k : Nat) : ((l.take k).flatMap f).length ≤ m * q := by
  have h2 := flatMap_length (f := f) (m := m) (l := l.take k) (fun x hx => h x (List.mem_of_mem_take hx))
  have h3 : (l.take k).length ≤ q := by rw [List.length_take]; omega
  have : m * (l.take k).length ≤ m * q := Nat.mul_le_mul_left _ h3
  omega
theorem toolL_length {a : ActionV} (ok : ActOk a) : (toolL a).length ≤ 30 := by
  have h5 : a.tool.data.toList.length = a.tool.size := by simp
  have := ok.tool
  simp only [toolL, List.length_append, List.length_cons, List.length_nil, h5]; omega
theorem cmds_length {a : ActionV} (ok : ActOk a) (k : Nat) : ((a.commands.take k).flatMap cmdL).length ≤ 800000 := by
  have := flatMap_take (f := cmdL) (m := 15100) ok.commands (fun x hx => by
    have := cmdL_length (ok.words x hx)
    simp only [cmdL, List.length_append, List.length_cons, List.length_nil]; omega) k
  omega
theorem vars_length {a : ActionV} (ok : ActOk a) (k : Nat) : ((a.vars.take k).flatMap varL).length ≤ 12000 := by
  have := flatMap_take (f := varL) (m := 360) ok.vars (fun x hx => by
    have := ok.var x hx
    have h5 : x.name.data.toList.length = x.name.size := by simp
    have h6 : x.value.data.toList.length = x.value.size := by simp
    simp only [varL, List.length_append, List.length_cons, List.length_nil, h5, h6]; omega) k
  omega
theorem outs_length {a : ActionV} (ok : ActOk a) (k : Nat) : ((a.outputs.take k).flatMap outL).length ≤ 30000 := by
  have := flatMap_take (f := outL) (m := 220) ok.outputs (fun x hx => by
    have := ok.output x hx
    have h5 : x.data.toList.length = x.size := by simp
    simp only [outL, List.length_append, List.length_cons, List.length_nil, h5]; omega) k
  omega
theorem needs_length {a : ActionV} (ok : ActOk a) (k : Nat) : ((a.needs.take k).flatMap needL).length ≤ 12000 := by
  have := flatMap_take (f := needL) (m := 360) ok.needs (fun x hx => by
    have := ok.need x hx
    have h5 : x.name.data.toList.length = x.name.size := by simp
    have h6 : x.value.data.toList.length = x.value.size := by simp
    simp only [needL, List.length_append, List.length_cons, List.length_nil, h5, h6]; omega) k
  omega
end Go.Proofs.Sm

namespace Go.Proofs.Sm
open Go.RowKit

def leM (x y : MemoryV) : Prop := ltS y.name x.name = false
theorem leM_iff {x y : MemoryV} : leM x y ↔ x.name.data.toList ≤ y.name.data.toList := by
  unfold leM
  rw [← Bool.not_eq_true, lt_bytes, List.not_lt]
theorem leM_trans {x y z : MemoryV} (h : leM x y) (h' : leM y z) : leM x z := leM_iff.2 (List.le_trans (leM_iff.1 h) (leM_iff.1 h'))
theorem leM_of_lt {x y : MemoryV} (h : ltS x.name y.name = true) : leM x y := leM_iff.2 (List.le_of_lt (lt_bytes.1 h))
def SortM (l : List MemoryV) : Prop := l.Pairwise leM
theorem sortM_iff {l : List MemoryV} : SortM l ↔ ∀ (i j : Nat) (x y : MemoryV), i < j → l[i]? = some x → l[j]? = some y → ltS y.name x.name = false := by
  rw [SortM, List.pairwise_iff_getElem]
  constructor
  · intro h i j x y hij hx hy
    obtain ⟨h1, rfl⟩ := List.getElem?_eq_some_iff.1 hx
    obtain ⟨h2, rfl⟩ := List.getElem?_eq_some_iff.1 hy
    exact h i j h1 h2 hij
  · intro h i j h1 h2 hij
    exact h i j _ _ hij (List.getElem?_eq_getElem h1) (List.getElem?_eq_getElem h2)
/-- place k of a row is where x goes -/
structure PutAt (l : List MemoryV) (x : MemoryV) (k : Nat) : Prop where
  le : k ≤ l.length
  hi : ∀ (i : Nat) (y : MemoryV), k ≤ i → l[i]? = some y → ltS x.name y.name = true
  lo : ∀ y : MemoryV, 0 < k → l[k - 1]? = some y → ltS x.name y.name = false
theorem put_perm (l : List MemoryV) (x : MemoryV) (k : Nat) : (l.take k ++ [x] ++ l.drop k).Perm (l ++ [x]) := by
  have h1 : (l.take k ++ x :: l.drop k).Perm (x :: (l.take k ++ l.drop k)) := List.perm_middle
  rw [List.take_append_drop] at h1
  rw [List.append_assoc, List.singleton_append]
  exact h1.trans (List.perm_append_singleton x l).symm
theorem PutAt.sorted {l : List MemoryV} {x : MemoryV} {k : Nat} (h : PutAt l x k) (hs : SortM l) : SortM (l.take k ++ [x] ++ l.drop k) := by
  unfold SortM at hs ⊢
  have hlow : ∀ a ∈ l.take k, leM a x := by
    intro a ha
    obtain ⟨i, hi⟩ := List.getElem?_of_mem ha
    rw [List.getElem?_take] at hi
    split at hi
    · rename_i hik
      obtain ⟨y, hy⟩ : ∃ y, l[k - 1]? = some y := at_lt (by have := h.le; omega)
      have hyx : leM y x := h.lo y (by omega) hy
      by_cases e : i = k - 1
      · subst e
        rw [hi] at hy
        obtain rfl := Option.some.inj hy
        exact hyx
      · exact leM_trans (sortM_iff.1 hs i (k - 1) a y (by omega) hi hy) hyx
    · cases hi
  have hhi : ∀ b ∈ l.drop k, leM x b := by
    intro b hb
    obtain ⟨i, hi⟩ := List.getElem?_of_mem hb
    rw [List.getElem?_drop] at hi
    exact leM_of_lt (h.hi _ b (by omega) hi)
  rw [List.append_assoc, List.pairwise_append]
  refine ⟨hs.sublist (List.take_sublist _ _), ?_, ?_⟩
  · rw [List.singleton_append, List.pairwise_cons]
    exact ⟨hhi, hs.sublist (List.drop_sublist _ _)⟩
  · intro a ha b hb
    rw [List.singleton_append] at hb
    rcases List.mem_cons.1 hb with rfl | hb
    · exact hlow a ha
    · exact leM_trans (hlow a ha) (hhi b hb)
/-- names of what is remembered go up -/
theorem mems_before {l : List MemoryV} (h : checkMemoryS l = 0) : ∀ (i j : Nat) (x y : MemoryV), i < j → l[i]? = some x → l[j]? = some y → ltS x.name y.name = true := by
  have h : listErr memErr MemoryV.name none l = 0 := by
    unfold checkMemoryS at h
    split at h
    · cases h
    · exact h
  have step : ∀ i x y, l[i]? = some x → l[i + 1]? = some y → ltS x.name y.name = true := by
    intro i x y hx hy
    have h1 := listErr_at h (i + 1) y hy
    rw [ahead_succ hx] at h1
    have h2 : notAfter (some x.name) y.name = false := by
      unfold memErr at h1
      split at h1
      · rename_i h3; exact absurd h1 h3
      · split at h1
        · cases h1
        · rename_i h3; simpa using h3
    exact leS_lt h2
  have key : ∀ d i x y, l[i]? = some x → l[i + d + 1]? = some y → ltS x.name y.name = true := by
    intro d
    induction d with
    | zero => intro i x y hx hy; exact step i x y hx hy
    | succ d ih =>
      intro i x y hx hy
      obtain ⟨z, hz⟩ : ∃ z, l[i + d + 1]? = some z := at_lt (by have := (List.getElem?_eq_some_iff.1 hy).1; omega)
      exact bl_trans (ih i x z hx hz) (step (i + d + 1) z y hz hy)
  intro i j x y hij hx hy
  refine key (j - i - 1) i x y hx ?_
  rw [show i + (j - i - 1) + 1 = j by omega]
  exact hy
theorem mems_sorted {l : List MemoryV} (h : checkMemoryS l = 0) : SortM l := sortM_iff.2 fun i j x y hij hx hy => leM_of_lt (mems_before h i j x y hij hx hy)
theorem mems_one {l : List MemoryV} (h : checkMemoryS l = 0) {x y : MemoryV} (hx : x ∈ l) (hy : y ∈ l) (he : x.name.data.toList = y.name.data.toList) : x = y := by
  obtain ⟨i, hi⟩ := List.getElem?_of_mem hx
  obtain ⟨j, hj⟩ := List.getElem?_of_mem hy
  rcases Nat.lt_trichotomy i j with h1 | h1 | h1
  · exact absurd he (ltS_ne (mems_before h i j x y h1 hi hj))
  · subst h1
    rw [hi] at hj
    exact Option.some.inj hj
  · exact absurd he.symm (ltS_ne (mems_before h j i y x h1 hj hi))
theorem mem_namesOf {l : List MemoryV} {x : MemoryV} (h : x ∈ l) : x.name.data.toList ∈ namesOf l := List.mem_map.2 ⟨x, h, rfl⟩
theorem both_one {la lb : List MemoryV} (ha : checkMemoryS la = 0) (hb : checkMemoryS lb = 0) {x y : MemoryV} (hx : x ∈ bothS la lb) (hy : y ∈ bothS la lb) (he : x.name.data.toList = y.name.data.toList) : x = y := by
  have hnew : ∀ {z : MemoryV}, z ∈ lb.filter (newTo la) → z.name.data.toList ∉ namesOf la := fun {z} hz => by
    have := (List.mem_filter.1 hz).2
    simpa [newTo] using this
  rcases List.mem_append.1 hx with h1 | h1 <;> rcases List.mem_append.1 hy with h2 | h2
  · exact mems_one ha h1 h2 he
  · exact absurd (he ▸ mem_namesOf h1) (hnew h2)
  · exact absurd (he.symm ▸ mem_namesOf h2) (hnew h1)
  · exact mems_one hb (List.mem_filter.1 h1).1 (List.mem_filter.1 h2).1 he
theorem JoinedIs.unique {la lb o1 o2 : List MemoryV} (ha : checkMemoryS la = 0) (hb : checkMemoryS lb = 0) (h1 : JoinedIs la lb o1) (h2 : JoinedIs la lb o2) : o1 = o2 := by
  refine List.Perm.eq_of_pairwise (le := leM) (fun x y hx hy h3 h4 => ?_) (sortM_iff.2 h1.2) (sortM_iff.2 h2.2) (h1.1.trans h2.1.symm)
  refine both_one ha hb (h1.1.mem_iff.1 hx) (h2.1.mem_iff.1 hy) ?_
  exact List.le_antisymm (leM_iff.1 h3) (leM_iff.1 h4)
/-- does one know of a rule, and is it the same one -/
def keepM (l : List RuleV) (y : MemoryV) : Bool := match idxName l y.name with
  | none => false
  | some k => (l[k]?).any fun r => (digestS (actTextL r.action)).toList == y.action.toList
def prunedS (l : List RuleV) (m : List MemoryV) : List MemoryV := m.filter (keepM l)
def prunedErr (l : List RuleV) (m : List MemoryV) : Int := if checkRulesS l ≠ 0 then checkRulesS l else checkMemoryS m
theorem pruned_a {l : List RuleV} {m : List MemoryV} (h : checkRulesS l ≠ 0) : prunedErr l m = checkRulesS l := by rw [prunedErr, if_pos h]
theorem pruned_rest {l : List RuleV} {m : List MemoryV} (h : checkRulesS l = 0) : prunedErr l m = checkMemoryS m := by rw [prunedErr, if_neg (by rw [h]; decide)]
theorem keep_none {l : List RuleV} {y : MemoryV} (h : idxName l y.name = none) : keepM l y = false := by rw [keepM, h]
theorem keep_some {l : List RuleV} {y : MemoryV} {k : Nat} {r : RuleV} (h : idxName l y.name = some k) (hr : l[k]? = some r) : keepM l y = ((digestS (actTextL r.action)).toList == y.action.toList) := by
  rw [keepM, h]
  simp [hr]
end Go.Proofs.Sm

namespace Go.Proofs.Sm
open Go.RowKit

section
variable {α : Type} [Rep α] {w w' : World} {B : Nat} {e : TypeId} {K : Nat → Prop} {v : Value} {l : List α}
theorem flatten_len {sz : Nat} : ∀ {rows : List (List Value)}, (∀ r ∈ rows, r.length = sz) → rows.flatten.length = rows.length * sz
  | [], _ => by simp
  | r :: rows, h => by
    rw [List.flatten_cons, List.length_append, flatten_len fun r hr => h r (by simp [hr]), h r (by simp), List.length_cons, Nat.succ_mul]; omega
/-- the cells of l[:k] and of l[k:] -/
theorem RowK.cut {k : Nat} (h : RowK w B e K v l) (hk : k ≤ l.length) :
    ∃ (A : Option Addr) (c : Nat) (rows1 rows2 : List (List Value)), v = .slice A l.length c ∧ l.length ≤ c ∧ c ≤ maxLen ∧ ((A = none ∧ l.length = 0 ∧ c = 0) ∨ ∃ g, A = some ⟨g, 0, none⟩ ∧ B ≤ g ∧ g < w.heap.size) ∧
      (rows1.length = k ∧ (∀ (i : Nat) (x : α) (r : List Value), (l.take k)[i]? = some x → rows1[i]? = some r → Rep.rep w K x r) ∧ rows1.flatten.length = k * Rep.sz α ∧
        (∀ r ∈ rows1, ∃ x : α, Rep.rep w K x r) ∧ ∀ g, A = some ⟨g, 0, none⟩ → ∀ j u, rows1.flatten[j]? = some u → w.cell? ⟨g, j, none⟩ = some u) ∧
      (rows2.length = l.length - k ∧ (∀ (i : Nat) (x : α) (r : List Value), (l.drop k)[i]? = some x → rows2[i]? = some r → Rep.rep w K x r) ∧ rows2.flatten.length = (l.length - k) * Rep.sz α ∧
        (∀ r ∈ rows2, ∃ x : α, Rep.rep w K x r) ∧ ∀ g, A = some ⟨g, 0, none⟩ → ∀ j u, rows2.flatten[j]? = some u → w.cell? ⟨g, k * Rep.sz α + j, none⟩ = some u) := by
  obtain ⟨A, c, rfl, h1, h2, h3⟩ := h.sl
  have hkind := h.kind
  obtain ⟨hK, rows, hr, hown, hrep⟩ := h
  have hlens : ∀ r ∈ rows, r.length = Rep.sz α := by
    intro r hr2
    obtain ⟨i, hi⟩ := List.getElem?_of_mem hr2
    have hi2 := (List.getElem?_eq_some_iff.1 hi).1
    exact Rep.len (hrep i l[i] r (List.getElem?_eq_getElem (by omega)) hi)
  have hl1 : (rows.take k).flatten.length = k * Rep.sz α := by
    rw [flatten_len fun r hr => hlens r (List.mem_of_mem_take hr), List.length_take]
    congr 1; omega
  have hcut : rows.flatten = (rows.take k).flatten ++ (rows.drop k).flatten := by rw [← List.flatten_append, List.take_append_drop]
  have hmem : ∀ r ∈ rows, ∃ x : α, Rep.rep w K x r := by
    intro r hr2
    obtain ⟨i, hi⟩ := List.getElem?_of_mem hr2
    have hi2 := (List.getElem?_eq_some_iff.1 hi).1
    exact ⟨_, hrep i l[i] r (List.getElem?_eq_getElem (by omega)) hi⟩
  refine ⟨A, c, rows.take k, rows.drop k, rfl, h1, h2, ?_, ⟨by rw [List.length_take]; omega, ?_, hl1, fun r hr => hmem r (List.mem_of_mem_take hr), ?_⟩, ⟨by rw [List.length_drop, hr], ?_, ?_, fun r hr => hmem r (List.mem_of_mem_drop hr), ?_⟩⟩
  · rcases hown.2 with ⟨h4, h5⟩ | ⟨g, cap, cur, h4, hg, _⟩
    · rw [Value.slice.injEq] at h4
      obtain ⟨rfl, _, rfl⟩ := h4
      exact .inl ⟨rfl, h5, rfl⟩
    · cases h4
      exact .inr ⟨g, rfl, hg, (hown.lt g rfl).2⟩
  · intro i x r hx hri
    rw [List.getElem?_take] at hx hri
    split at hx
    · rename_i hik
      rw [if_pos hik] at hri
      exact hrep i x r hx hri
    · cases hx
  · rintro g rfl j u hu
    have h5 := hown.cells (g := _) rfl j u (by rw [hcut, List.getElem?_append_left (List.getElem?_eq_some_iff.1 hu).1]; exact hu)
    rw [addr_add, Nat.zero_add] at h5
    exact h5
  · intro i x r hx hri
    rw [List.getElem?_drop] at hx hri
    exact hrep _ x r hx hri
  · rw [flatten_len fun r hr => hlens r (List.mem_of_mem_drop hr), List.length_drop, hr]
  · rintro g rfl j u hu
    have h5 := hown.cells (g := _) rfl (k * Rep.sz α + j) u (by rw [hcut, List.getElem?_append_right (by omega), hl1, Nat.add_sub_cancel_left]; exact hu)
    rw [addr_add, Nat.zero_add] at h5
    exact h5
end
end Go.Proofs.Sm

namespace Go.Proofs.Sm
open Go.RowKit

theorem names_any {l : List MemoryV} {s : ByteArray} : (l.any fun x => x.name.toList == s.toList) = decide (s.data.toList ∈ namesOf l) := by
  rw [Bool.eq_iff_iff, List.any_eq_true, decide_eq_true_eq, namesOf, List.mem_map]
  constructor
  · rintro ⟨x, hx, he⟩
    exact ⟨x, hx, by rw [← Lib.toList_data, ← Lib.toList_data]; simpa using he⟩
  · rintro ⟨x, hx, he⟩
    rw [← Lib.toList_data, ← Lib.toList_data] at he
    exact ⟨x, hx, by simpa using he⟩
set_option maxRecDepth 100000 in
theorem ref6_kept (A : Option Addr) (n c : Nat) (l : List MemoryV) (s : ByteArray) (w : World) (S : Nat → Prop) (hsl : Sl w S A n l) :
    Calls Tryz.prog 33 #[.slice A n c, .string s] w fun e w' => ∃ r : Int, e = .returned (.int .i64 r) ∧ decide (r < 0) = !decide (s.data.toList ∈ namesOf l) ∧ w = w' := by
  have hm : n ≤ 9223372036854775807 := hsl.2.1
  rw [← names_any]
  go_enter Tryz.func33, Tryz.ntmps33
  go_wp2
  go_loop [5] (fun i => ∃ k : Nat, k ≤ n ∧ i = .int .i64 k ∧ (l.take k).any (fun x => x.name.toList == s.toList) = false) (fun i => n - (intOf i).toNat)
  case atStart => exact ⟨0, Nat.zero_le _, rfl, rfl⟩
  case round =>
    obtain ⟨k, hk, rfl, hall⟩ := hrel
    have H := Lib.hid hall; clear hall
    by_cases hlt : k < n
    · obtain ⟨b, o, x, rfl, hb, hx, A1, n1, c1, A2, n2, c2, A3, n3, c3, _, _, _, q0, _⟩ := hsl.memory hlt
      have Hx := Lib.hid hx; clear hx
      cases hq : (x.name.toList == s.toList)
      · have HS := Lib.hid (any_step (p := fun x : MemoryV => x.name.toList == s.toList) Hx.out H.out hq)
        go_wp2
        go_round
        case rel => exact ⟨k + 1, by omega, by go_num, HS.out⟩
        case measure => simp [intOf]; omega
      · have HS := Lib.hid (any_yes (p := fun x : MemoryV => x.name.toList == s.toList) Hx.out hq)
        go_wp2
        go_ret
        exact ⟨k, rfl, by rw [HS.out]; simp, rfl⟩
    · have HS := Lib.hid (any_end (by rw [hsl.1]; omega) H.out)
      go_wp2
      go_ret
      exact ⟨-1, rfl, by rw [HS.out]; rfl, rfl⟩
set_option maxHeartbeats 4000000 in
set_option maxRecDepth 100000 in
theorem ref6_SameMemory (A A' : Option Addr) (n c c' : Nat) (l : List MemoryV) (w : World) (h : Sl w (Lt w.heap.size) A n l) (h' : Sl w (Lt w.heap.size) A' n l) :
    Calls Tryz.prog 13 #[.slice A n c, .slice A' n c'] w fun e w' => e = .returned (.bool true) ∧ Below w.heap.size w w' := by
  have hm : n ≤ 9223372036854775807 := h.2.1
  go_enter Tryz.func13, Tryz.ntmps13
  go_wp2
  go_loopw [5] (fun i wr => ∃ k : Nat, k ≤ n ∧ i = .int .i64 k ∧ Below w.heap.size w wr) (fun i _ => n - (intOf i).toNat)
  case atStart => exact ⟨0, Nat.zero_le _, rfl, fr_refl w⟩
  case round =>
    obtain ⟨k, hk, rfl, hbel⟩ := hrel
    by_cases hlt : k < n
    · obtain ⟨g1, o1, x, rfl, hg1, hx1, A1, n1, c1, A2, n2, c2, A3, n3, c3, ⟨z1, z2, z3, z4, z5⟩, _, ⟨s1, s2, s3⟩, p0, p1, p2, p3, p4, p5, p6, p7⟩ := h.memory hlt
      obtain ⟨g2, o2, x', rfl, hg2, hx2, B1, m1, d1, B2, m2, d2, B3, m3, d3, _, _, ⟨t1, t2, t3⟩, q0, q1, q2, q3, q4, q5, q6, q7⟩ := h'.memory hlt
      obtain rfl : x = x' := by rw [hx1] at hx2; exact Option.some.inj hx2
      have hkI : (k : Int) < (n : Int) := by omega
      have hg1 : g1 < w.heap.size := hg1
      have hg2 : g2 < w.heap.size := hg2
      have HK := Lib.hid (show ∀ w', Below w.heap.size w w' → (Below w.heap.size w w' ∧
          (w'.cell? ⟨g1, o1 + k * 8, none⟩ = some (.string x.name) ∧ w'.cell? ⟨g1, o1 + k * 8 + 1, none⟩ = some (.string x.action) ∧ w'.cell? ⟨g1, o1 + k * 8 + 2, none⟩ = some (.slice A1 n1 c1) ∧ w'.cell? ⟨g1, o1 + k * 8 + 3, none⟩ = some (.int .i64 x.result.code) ∧
          w'.cell? ⟨g1, o1 + k * 8 + 4, none⟩ = some (.string x.result.text) ∧ w'.cell? ⟨g1, o1 + k * 8 + 5, none⟩ = some (.slice A2 n2 c2) ∧ w'.cell? ⟨g1, o1 + k * 8 + 6, none⟩ = some (.slice A3 n3 c3) ∧ w'.cell? ⟨g1, o1 + k * 8 + 7, none⟩ = some (.int .i64 x.result.command)) ∧
          w'.cell? ⟨g2, o2 + k * 8, none⟩ = some (.string x.name) ∧ w'.cell? ⟨g2, o2 + k * 8 + 1, none⟩ = some (.string x.action) ∧ w'.cell? ⟨g2, o2 + k * 8 + 2, none⟩ = some (.slice B1 m1 d1) ∧ w'.cell? ⟨g2, o2 + k * 8 + 3, none⟩ = some (.int .i64 x.result.code) ∧
          w'.cell? ⟨g2, o2 + k * 8 + 4, none⟩ = some (.string x.result.text) ∧ w'.cell? ⟨g2, o2 + k * 8 + 5, none⟩ = some (.slice B2 m2 d2) ∧ w'.cell? ⟨g2, o2 + k * 8 + 6, none⟩ = some (.slice B3 m3 d3) ∧ w'.cell? ⟨g2, o2 + k * 8 + 7, none⟩ = some (.int .i64 x.result.command)) from fun w' hw => by
        have e1 : ∀ o, w'.cell? ⟨g1, o, none⟩ = w.cell? ⟨g1, o, none⟩ := fun o => hw.cell (p := ⟨g1, o, none⟩) hg1
        have e2 : ∀ o, w'.cell? ⟨g2, o, none⟩ = w.cell? ⟨g2, o, none⟩ := fun o => hw.cell (p := ⟨g2, o, none⟩) hg2
        exact ⟨hw, ⟨(e1 _).trans p0, (e1 _).trans p1, (e1 _).trans p2, (e1 _).trans p3, (e1 _).trans p4, (e1 _).trans p5, (e1 _).trans p6, (e1 _).trans p7⟩, (e2 _).trans q0, (e2 _).trans q1, (e2 _).trans q2, (e2 _).trans q3, (e2 _).trans q4, (e2 _).trans q5, (e2 _).trans q6, (e2 _).trans q7⟩)
      have hs := sameLooksS_iff.2 (rfl : x.looks = x.looks)
      have HC1 := Lib.hid (fun w' (hw : Below w.heap.size w w') => ref5_SameLooks A1 B1 n1 m1 c1 d1 x.looks x.looks w' (sl_call s1 hw (Nat.le_refl _)) (sl_call t1 hw (Nat.le_refl _)))
      rw [hs] at HC1
      have r1 : ResIs w x.result A2 n2 A3 n3 := ⟨z4, z3, s2, s3, z5⟩
      have r2 : ResIs w x.result B2 m2 B3 m3 := ⟨z4, z3, t2, t3, z5⟩
      have HC2 := Lib.hid (fun w' (hw : Below w.heap.size w w') => ref5_SameResult x.result A2 B2 n2 m2 c2 d2 A3 B3 n3 m3 c3 d3 w' (r1.then_ hw) (r2.then_ hw))
      unfold resVal at HC2
      clear hx1 hx2 p0 p1 p2 p3 p4 p5 p6 p7 q0 q1 q2 q3 q4 q5 q6 q7 s1 s2 s3 t1 t2 t3 r1 r2 hs z1 z2 z3 z4 z5
      obtain ⟨_, ⟨p0, p1, p2, p3, p4, p5, p6, p7⟩, q0, q1, q2, q3, q4, q5, q6, q7⟩ := HK.out _ hbel
      go_wp2
      go_region_held3 (fun w' => Below w.heap.size w w' ∧
          (w'.cell? ⟨g1, o1 + k * 8, none⟩ = some (.string x.name) ∧ w'.cell? ⟨g1, o1 + k * 8 + 1, none⟩ = some (.string x.action) ∧ w'.cell? ⟨g1, o1 + k * 8 + 2, none⟩ = some (.slice A1 n1 c1) ∧ w'.cell? ⟨g1, o1 + k * 8 + 3, none⟩ = some (.int .i64 x.result.code) ∧
          w'.cell? ⟨g1, o1 + k * 8 + 4, none⟩ = some (.string x.result.text) ∧ w'.cell? ⟨g1, o1 + k * 8 + 5, none⟩ = some (.slice A2 n2 c2) ∧ w'.cell? ⟨g1, o1 + k * 8 + 6, none⟩ = some (.slice A3 n3 c3) ∧ w'.cell? ⟨g1, o1 + k * 8 + 7, none⟩ = some (.int .i64 x.result.command)) ∧
          w'.cell? ⟨g2, o2 + k * 8, none⟩ = some (.string x.name) ∧ w'.cell? ⟨g2, o2 + k * 8 + 1, none⟩ = some (.string x.action) ∧ w'.cell? ⟨g2, o2 + k * 8 + 2, none⟩ = some (.slice B1 m1 d1) ∧ w'.cell? ⟨g2, o2 + k * 8 + 3, none⟩ = some (.int .i64 x.result.code) ∧
          w'.cell? ⟨g2, o2 + k * 8 + 4, none⟩ = some (.string x.result.text) ∧ w'.cell? ⟨g2, o2 + k * 8 + 5, none⟩ = some (.slice B2 m2 d2) ∧ w'.cell? ⟨g2, o2 + k * 8 + 6, none⟩ = some (.slice B3 m3 d3) ∧ w'.cell? ⟨g2, o2 + k * 8 + 7, none⟩ = some (.int .i64 x.result.command))
        (first | assumption | exact HK.out _ hbel.drew | exact HK.out _ (fr_call (And.left (by assumption)) hbc))
        (first | (go_at_call 41; refine (HC1.out _ (And.left (by assumption))).mono ?_; rintro e wc ⟨rfl, hbc⟩) | (go_at_call 42; refine (HC2.out _ (And.left (by assumption))).mono ?_; rintro e wc ⟨rfl, hbc⟩))
      have hb9 : Below w.heap.size w wc := And.left (by assumption)
      go_wp2
      go_roundw
      case rel => exact ⟨k + 1, by omega, by go_num, hb9⟩
      case measure => simp [intOf]; omega
    · go_wp2
      go_ret
      exact ⟨rfl, hbel⟩
end Go.Proofs.Sm
