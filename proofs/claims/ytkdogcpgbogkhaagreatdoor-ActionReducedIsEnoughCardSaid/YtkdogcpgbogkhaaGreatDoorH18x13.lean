/- Walks: what is simple (awake), and the law of looks. -/
import Derived.Test.YtkdogcpgbogkhaaGreatDoorH18x12
import Derived.Test.YtkdogcpgbogkhaaGreatDoorH18x9
import Derived.Test.YtkdogcpgbogkhaaGreatDoorH18x6
import Derived.Test.YtkdogcpgbogkhaaGreatDoorH18x8
import Derived.Test.YtkdogcpgbogkhaaGreatDoorH18x2
import Derived.Test.YtkdogcpgbogkhaaGreatDoorH18x7
import Derived.Deep.RegionLaw
namespace Go.Proofs.Sm
open Go.RowKit

/-- one path is the other, or lies in it -/
def touchS (p q : ByteArray) : Bool := p.toList == q.toList || (liesS p q || liesS q p)
set_option maxRecDepth 100000 in
theorem act_Touch (p q : ByteArray) (w : World) (hp : p.size ≤ 100000) (hq : q.size ≤ 100000) : Calls Tryz.prog 83 #[.string p, .string q] w fun e w' => e = .returned (.bool (touchS p q)) ∧ w = w' := by
  have H1 := Lib.hid (blob_Within p q w hq)
  have H2 := Lib.hid (blob_Within q p w hp)
  cases he : (p.toList == q.toList)
  · cases h1 : liesS p q
    · have HV := Lib.hid (show touchS p q = liesS q p by rw [touchS, he, h1]; rfl)
      rw [h1] at H1
      go_enter Tryz.func83, Tryz.ntmps83
      go_wp2_with fail
      refine H1.out.mono ?_
      rintro e w1 ⟨rfl, rfl⟩
      go_wp2_with fail
      refine H2.out.mono ?_
      rintro e w1 ⟨rfl, rfl⟩
      go_wp2
      go_ret
      exact ⟨ret_bool HV.out.symm, rfl⟩
    · have HV := Lib.hid (show touchS p q = true by rw [touchS, he, h1]; rfl)
      rw [h1] at H1
      go_enter Tryz.func83, Tryz.ntmps83
      go_wp2_with fail
      refine H1.out.mono ?_
      rintro e w1 ⟨rfl, rfl⟩
      go_wp2
      go_ret
      exact ⟨ret_bool HV.out.symm, rfl⟩
  · have HV := Lib.hid (show touchS p q = true by rw [touchS, he]; rfl)
    go_enter Tryz.func83, Tryz.ntmps83
    go_wp2
    go_ret
    exact ⟨ret_bool HV.out.symm, rfl⟩
theorem both_clos (p q : ByteArray) (g : Nat) (w : World) (hc : w.cell? ⟨g, 0, none⟩ = some (.string p)) (hp : p.size ≤ 100000) (hq : q.size ≤ 100000) : Calls Tryz.prog 82 #[.string q, .pointer (some ⟨g, 0, none⟩)] w fun e w' => e = .returned (.bool (touchS q p)) ∧ Below w.heap.size w w' := by
  have H1 := Lib.hid (act_Touch q p w hq hp)
  go_enter Tryz.func82, Tryz.ntmps82
  go_wp2_with fail
  refine H1.out.mono ?_
  rintro e w1 ⟨rfl, rfl⟩
  go_wp2
  go_ret
  exact ⟨rfl, Below.refl _ _⟩
def touchesS (outs : List ByteArray) (F : List FileV) : Bool := F.any fun f => outs.any fun o => touchS o f.path
/-- why an action with these files is not taken, or 0 -/
def bothErr (a : ActionV) (F : List FileV) : Int := if checkActionS a ≠ 0 then checkActionS a else if checkFilesS F ≠ 0 then checkFilesS F else if touchesS a.outputs F then 12 else 0
theorem both_act {a : ActionV} {F : List FileV} (h : ¬ checkActionS a = 0) : bothErr a F = checkActionS a := by rw [bothErr, if_pos h]
theorem both_files {a : ActionV} {F : List FileV} (h : checkActionS a = 0) (h1 : ¬ checkFilesS F = 0) : bothErr a F = checkFilesS F := by rw [bothErr, if_neg (by simpa using h), if_pos h1]
theorem both_rest {a : ActionV} {F : List FileV} (h : checkActionS a = 0) (h1 : checkFilesS F = 0) : bothErr a F = if touchesS a.outputs F then 12 else 0 := by rw [bothErr, if_neg (by simpa using h), if_neg (by simpa using h1)]
set_option maxHeartbeats 4000000 in
set_option maxRecDepth 100000 in
theorem act_checkBoth (a : ActionV) (A : Option Addr) (n n' : Nat) (B : Option Addr) (m m' : Nat) (C : Option Addr) (p p' : Nat) (D : Option Addr) (q q' : Nat) (L : Option Addr) (nl cl : Nat) (F : List FileV) (w : World) (hE : Env w) (ha : ActIs w a A n B m C p D q) (hsl : Sl w (Lt w.heap.size) L nl F) :
    Calls Tryz.prog 43 #[actVal a A n n' B m m' C p p' D q q', .slice L nl cl] w fun e w' => e = .returned (.int .i64 (bothErr a F)) ∧ Below w.heap.size w w' := by
  have hm : nl ≤ 9223372036854775807 := hsl.2.1
  have hba := fr_alloc (fr_refl w) (.cells #[.string a.tool, .slice A n n', .slice B m m', .slice C p p', .slice D q q', .int .i64 a.time] 26)
  have HC := Lib.hid (act_CheckAction a A n n' B m m' C p p' D q q' _ (hE.then_ hba) (ha.then_ hba))
  unfold actVal at *
  rcases Decidable.em (¬ checkActionS a = 0) with h1 | h1
  · have HV := Lib.hid (both_act (F := F) h1)
    have hb : (checkActionS a == 0) = false := by simpa using h1
    generalize checkActionS a = z at *
    go_enter Tryz.func43, Tryz.ntmps43
    go_wp2_with fail
    refine HC.out.mono ?_
    rintro e w1 ⟨rfl, hb1⟩
    go_wp2
    go_ret
    exact ⟨ret_int HV.out.symm, fr_box (fr_refl w) hb1⟩
  have h1 : checkActionS a = 0 := Decidable.not_not.1 h1
  have HF := Lib.hid (fun w1 (hb : Below w.heap.size w w1) => blob_CheckFiles L nl cl F w1 (hE.then_ hb) (sl_call hsl hb (Nat.le_refl _)))
  rw [h1] at HC
  rcases Decidable.em (¬ checkFilesS F = 0) with h2 | h2
  · have HV := Lib.hid (both_files h1 h2)
    have hb : (checkFilesS F == 0) = false := by simpa using h2
    generalize checkFilesS F = z at *
    go_enter Tryz.func43, Tryz.ntmps43
    go_wp2_with fail
    refine HC.out.mono ?_
    rintro e w1 ⟨rfl, hb1⟩
    have hb2 := fr_box (fr_refl w) hb1
    go_wp2_with fail
    refine (HF.out w1 hb2).mono ?_
    rintro e w2 ⟨rfl, hb3⟩
    go_wp2
    go_ret
    exact ⟨ret_int HV.out.symm, fr_call hb2 hb3⟩
  have h2 : checkFilesS F = 0 := Decidable.not_not.1 h2
  have HV := Lib.hid (both_rest h1 h2)
  have hfp := files_sizes h2
  have hop := (checkAction_ok h1).output
  have hLF := hsl.1
  rw [h2] at HF
  go_enter Tryz.func43, Tryz.ntmps43
  go_wp2_with fail
  refine HC.out.mono ?_
  rintro e w1 ⟨rfl, hb1⟩
  have hb2 := fr_box (fr_refl w) hb1
  go_wp2_with fail
  refine (HF.out w1 hb2).mono ?_
  rintro e w2 ⟨rfl, hb3⟩
  have hb4 := hb1.trans (hb3.mono hb1.size)
  have hz4 := hb4.size
  rw [World.size_alloc] at hz4
  clear hb1 hb2 hb3
  go_wp2
  go_loopw [21] (fun i wr => ∃ k : Nat, k ≤ nl ∧ i = .int .i64 k ∧ (F.take k).any (fun f => a.outputs.any fun o => touchS o f.path) = false ∧ Below (w.alloc (.cells #[.string a.tool, .slice A n n', .slice B m m', .slice C p p', .slice D q q', .int .i64 a.time] 26)).heap.size (w.alloc (.cells #[.string a.tool, .slice A n n', .slice B m m', .slice C p p', .slice D q q', .int .i64 a.time] 26)) wr) (fun i _ => nl - (intOf i).toNat)
  case atStart => exact ⟨0, Nat.zero_le _, rfl, rfl, hb4⟩
  case round =>
    clear hb4
    obtain ⟨k, hk, rfl, hno, hbr⟩ := hrel
    have HNo := Lib.hid hno
    clear hno
    have hbw := fr_box (fr_refl w) hbr
    have hzr := hbr.size
    rw [World.size_alloc] at hzr
    by_cases hlt : k < nl
    · obtain ⟨b, o, x, A', n'', c'', rfl, hb, hx, hs1, hnc, hcm, hsl', c0, c1, c2⟩ := (hsl.keep (keep_lt hbw)).file hlt
      have hkI : (k : Int) < (nl : Int) := by omega
      have cw3 : wr.cell? ⟨w.heap.size, 3, none⟩ = some (.slice C p p') := (World.cell?_of_block (a := ⟨w.heap.size, 3, none⟩) (hbr.block w.heap.size (by rw [World.size_alloc]; exact Nat.lt_succ_self _))).trans (by simp [go_sem])
      have hgw : w.heap.size < wr.heap.size := by omega
      have hx2 := hfp x (List.mem_of_getElem? hx)
      have hnew := fr_alloc (fr_refl wr) (.cells #[.string x.path, .bool x.run, .slice A' n'' c''] 50)
      have HCF := Lib.hid (slices_ContainsFunc1 82 (enters_of Tryz.func82 (by kernel_rfl) rfl) (.pointer (some ⟨wr.heap.size, 0, none⟩)) (fun o => touchS o x.path) C p p' a.outputs _ (sl_call ha.outputs (fr_call hbw hnew) (Nat.le_refl _))
        (fun W y hbW _ hy => both_clos x.path y wr.heap.size W ((World.cell?_of_block (a := ⟨wr.heap.size, 0, none⟩) (hbW.block wr.heap.size (by rw [World.size_alloc]; exact Nat.lt_succ_self _))).trans (by simp [go_sem])) (by omega) (by have := hop y hy; omega)))
      have HX := Lib.hid (show (F.take (k + 1)).any (fun f => a.outputs.any fun o => touchS o f.path) = (a.outputs.any fun o => touchS o x.path) by rw [List.take_add_one, hx, List.any_append, HNo.out]; simp)
      clear hx hsl'
      cases hany : (a.outputs.any fun o => touchS o x.path)
      · rw [hany] at HX HCF
        go_wp2_with fail
        refine HCF.out.mono ?_
        rintro e w5 ⟨rfl, hb5⟩
        go_wp2
        go_roundw
        case rel => exact ⟨k + 1, by omega, by go_num, HX.out, hbr.trans ((fr_box (fr_refl wr) hb5).mono (by rw [World.size_alloc]; omega))⟩
        case measure => simp [intOf]; omega
      · have HE := Lib.hid (show touchesS a.outputs F = true by
          rw [hany] at HX
          have h3 := List.any_append (xs := F.take (k + 1)) (ys := F.drop (k + 1)) (f := fun f => a.outputs.any fun o => touchS o f.path)
          rw [List.take_append_drop, HX.out] at h3
          exact h3)
        rw [hany] at HCF
        rw [HE.out, if_pos rfl] at HV
        go_wp2_with fail
        refine HCF.out.mono ?_
        rintro e w5 ⟨rfl, hb5⟩
        go_wp2
        go_ret
        exact ⟨ret_int HV.out.symm, fr_box hbw hb5⟩
    · have HE : touchesS a.outputs F = false := by
        have h3 := HNo.out
        rw [List.take_of_length_le (by omega)] at h3
        exact h3
      rw [HE, if_neg (by decide)] at HV
      go_wp2
      go_ret
      exact ⟨ret_int HV.out.symm, hbw⟩
end Go.Proofs.Sm

namespace Go.Proofs.Sm
open Go.RowKit Go.Maps Go.Sort Go.Shelf

theorem keys_mapstringsmithyardapiLook (b : Nat) (w : World) : Calls Tryz.prog 46 #[.map (some b)] w fun e w' => e = .returned (.func (.func 87) #[] #[.pointer (some ⟨w.heap.size, 0, none⟩)]) ∧ w' = w.alloc (.cells #[.map (some b)] 100) :=
  (callsIn_wide (n := 5)).1 (AnyZ.keys_in Tryz.keys_mapstringsmithyardapiLook Fence.wide 5 trivial rfl (some b) w)
set_option maxHeartbeats 1000000 in
theorem sorted_mapLook (b n : Nat) (f : List UInt8 → Option Value) (w : World) (h : MapIs Tryz.prog 9 w b n f) (hn : n ≤ 1000000000) :
    Calls Tryz.prog 45 #[.func (.func 87) #[] #[.pointer (some ⟨w.heap.size, 0, none⟩)]] (w.alloc (.cells #[.map (some b)] 100)) fun e w' =>
      ∃ ks A c, e = .returned (.slice A ks.length c) ∧ KeysAre f ks ∧ ks.length ≤ c ∧ c ≤ maxLen ∧ Sl w' (fun k => w.heap.size ≤ k ∧ k < w'.heap.size) A ks.length ks ∧ Below w.heap.size w w' := by
  obtain ⟨D0, hown, hsz, hnd, hmem, hlen⟩ := h.keys Tryz.underlying9
  have hbl := hown.lt
  have hseq : SeqGives Fence.wide 2 Tryz.prog 87 #[.pointer (some ⟨w.heap.size, 0, none⟩)] encStr (fun ss => ss.Perm (strKeys D0)) (Maps.size D0) (w.alloc (.cells #[.map (some b)] 100)) :=
    AnyZ.keys_gives (ρ := Tryz.keys_mapstringsmithyardapiLook_ren) { Tryz.keys_mapstringsmithyardapiLook with } Fence.wide _ trivial rfl (by omega) w.heap.size b n D0 _ (by simp) (by simp) (by
      obtain ⟨es, clock, hb, Ft, hs, hD⟩ := hown
      exact ⟨es, clock, (Below.heap_alloc _ _ b hbl).trans hb, Ft, hs, hD⟩)
  have hm1 : Maps.size D0 ≤ maxLen := by unfold maxLen; omega
  have cS := AnyZ.sorted_in Tryz.sorted_string Fence.wide 5 trivial trivial trivial trivial rfl (by omega) (sorts_string _) (enters_of Tryz.func86 (by kernel_rfl) rfl) 87 #[.pointer (some ⟨w.heap.size, 0, none⟩)] trivial (enters_of Tryz.func87 (by kernel_rfl) rfl) _ _ hm1 (by omega) _ hseq
  change CallsIn _ _ Tryz.prog 45 _ _ _ at cS
  refine (callsIn_wide.1 cS).mono ?_
  rintro e w' ⟨v, ss, rfl, hp, hrow, _, hb⟩
  obtain ⟨h1, h2⟩ := keysAre_of hp hnd hmem hlen
  have hl : ss.length = ((ss.mergeSort leB).map fun x => (⟨x.toArray⟩ : ByteArray)).length := by simp
  generalize hks : ((ss.mergeSort leB).map fun x => (⟨x.toArray⟩ : ByteArray)) = ks at h1 h2 hl
  have hrow2 : w'.ownsRow (w.alloc (.cells #[.map (some b)] 100)).heap.size 9 1 v ks.length (ks.flatMap fun x => [Value.string x]) := by
    rw [flat_one, ← h2, ← hl]
    exact hrow
  have hrk : RowK w' (w.heap.size + 1) 9 (fun _ => False) v ks := ⟨fun _ h => h.elim, ks.map fun x => [Value.string x], by simp, by rw [← List.flatMap_def]; rw [World.size_alloc] at hrow2; exact hrow2, fun i x r hx hr => by
    rw [List.getElem?_map, hx] at hr
    cases hr
    exact ⟨rfl, h1.size x (List.mem_of_getElem? hx)⟩⟩
  obtain ⟨A, c, rfl, h3, h4, h5⟩ := hrk.slFrom
  exact ⟨ks, A, c, rfl, h1, h3, h4, h5.more (fun k hk => ⟨by omega, hk.2⟩), ((Below.refl _ w).alloc (Nat.le_refl _) _).trans (hb.mono (by simp))⟩
theorem keys_mapstringsmithyardapiFile (b : Nat) (w : World) : Calls Tryz.prog 47 #[.map (some b)] w fun e w' => e = .returned (.func (.func 88) #[] #[.pointer (some ⟨w.heap.size, 0, none⟩)]) ∧ w' = w.alloc (.cells #[.map (some b)] 99) :=
  (callsIn_wide (n := 5)).1 (AnyZ.keys_in Tryz.keys_mapstringsmithyardapiFile Fence.wide 5 trivial rfl (some b) w)
set_option maxHeartbeats 1000000 in
theorem sorted_mapFile (b n : Nat) (f : List UInt8 → Option Value) (w : World) (h : MapIs Tryz.prog 9 w b n f) (hn : n ≤ 1000000000) :
    Calls Tryz.prog 45 #[.func (.func 88) #[] #[.pointer (some ⟨w.heap.size, 0, none⟩)]] (w.alloc (.cells #[.map (some b)] 99)) fun e w' =>
      ∃ ks A c, e = .returned (.slice A ks.length c) ∧ KeysAre f ks ∧ ks.length ≤ c ∧ c ≤ maxLen ∧ Sl w' (fun k => w.heap.size ≤ k ∧ k < w'.heap.size) A ks.length ks ∧ Below w.heap.size w w' := by
  obtain ⟨D0, hown, hsz, hnd, hmem, hlen⟩ := h.keys Tryz.underlying9
  have hbl := hown.lt
  have hseq : SeqGives Fence.wide 2 Tryz.prog 88 #[.pointer (some ⟨w.heap.size, 0, none⟩)] encStr (fun ss => ss.Perm (strKeys D0)) (Maps.size D0) (w.alloc (.cells #[.map (some b)] 99)) :=
    AnyZ.keys_gives (ρ := Tryz.keys_mapstringsmithyardapiFile_ren) { Tryz.keys_mapstringsmithyardapiFile with } Fence.wide _ trivial rfl (by omega) w.heap.size b n D0 _ (by simp) (by simp) (by
      obtain ⟨es, clock, hb, Ft, hs, hD⟩ := hown
      exact ⟨es, clock, (Below.heap_alloc _ _ b hbl).trans hb, Ft, hs, hD⟩)
  have hm1 : Maps.size D0 ≤ maxLen := by unfold maxLen; omega
  have cS := AnyZ.sorted_in Tryz.sorted_string Fence.wide 5 trivial trivial trivial trivial rfl (by omega) (sorts_string _) (enters_of Tryz.func86 (by kernel_rfl) rfl) 88 #[.pointer (some ⟨w.heap.size, 0, none⟩)] trivial (enters_of Tryz.func88 (by kernel_rfl) rfl) _ _ hm1 (by omega) _ hseq
  change CallsIn _ _ Tryz.prog 45 _ _ _ at cS
  refine (callsIn_wide.1 cS).mono ?_
  rintro e w' ⟨v, ss, rfl, hp, hrow, _, hb⟩
  obtain ⟨h1, h2⟩ := keysAre_of hp hnd hmem hlen
  have hl : ss.length = ((ss.mergeSort leB).map fun x => (⟨x.toArray⟩ : ByteArray)).length := by simp
  generalize hks : ((ss.mergeSort leB).map fun x => (⟨x.toArray⟩ : ByteArray)) = ks at h1 h2 hl
  have hrow2 : w'.ownsRow (w.alloc (.cells #[.map (some b)] 99)).heap.size 9 1 v ks.length (ks.flatMap fun x => [Value.string x]) := by
    rw [flat_one, ← h2, ← hl]
    exact hrow
  have hrk : RowK w' (w.heap.size + 1) 9 (fun _ => False) v ks := ⟨fun _ h => h.elim, ks.map fun x => [Value.string x], by simp, by rw [← List.flatMap_def]; rw [World.size_alloc] at hrow2; exact hrow2, fun i x r hx hr => by
    rw [List.getElem?_map, hx] at hr
    cases hr
    exact ⟨rfl, h1.size x (List.mem_of_getElem? hx)⟩⟩
  obtain ⟨A, c, rfl, h3, h4, h5⟩ := hrk.slFrom
  exact ⟨ks, A, c, rfl, h1, h3, h4, h5.more (fun k hk => ⟨by omega, hk.2⟩), ((Below.refl _ w).alloc (Nat.le_refl _) _).trans (hb.mono (by simp))⟩
end Go.Proofs.Sm

namespace Go.Proofs.Sm
open Go.RowKit Go.Maps

def noResult : ResultV := ⟨0, ⟨#[]⟩, [], [], 0⟩
set_option maxHeartbeats 4000000 in
set_option maxRecDepth 100000 in
/-- what is not taken is not executed -/
theorem exec_bad (a : ActionV) (A : Option Addr) (n n' : Nat) (B : Option Addr) (m m' : Nat) (C : Option Addr) (p p' : Nat) (D : Option Addr) (q q' : Nat) (L : Option Addr) (nl cl : Nat) (F : List FileV) (w : World) (hE : Env2 w) (ha : ActIs w a A n B m C p D q) (hsl : Sl w (Lt w.heap.size) L nl F) (hbad : ¬ bothErr a F = 0) :
    Calls Tryz.prog 14 #[actVal a A n n' B m m' C p p' D q q', .slice L nl cl] w fun e w' => e = .returned (.tuple #[resVal noResult none 0 0 none 0 0, .int .i64 (bothErr a F)]) ∧ Below w.heap.size w w' := by
  have HC := Lib.hid (fun w1 (hb : Below w.heap.size w w1) => act_checkBoth a A n n' B m m' C p p' D q q' L nl cl F w1 (hE.then_ hb).toEnv (ha.then_ hb) (sl_call hsl hb (Nat.le_refl _)))
  unfold actVal at *
  have hb0 : (bothErr a F == 0) = false := by simpa using hbad
  generalize bothErr a F = z at *
  clear hsl ha hE
  go_enter Tryz.func14, Tryz.ntmps14
  go_wp2_with fail
  refine (HC.out _ (fr_alloc (fr_alloc (fr_refl w) _) _)).mono ?_
  rintro e w1 ⟨rfl, hb1⟩
  have hb2 := fr_call (fr_alloc (fr_alloc (fr_refl w) _) _) hb1
  have harr : Arr w1 (w.heap.size + 1) 30 [.int .i64 0, .string ⟨#[]⟩, .slice none 0 0, .slice none 0 0, .int .i64 0] := by
    have h1 := heap_alloc_new (w.alloc (.cells #[.string a.tool, .slice A n n', .slice B m m', .slice C p p', .slice D q q', .int .i64 a.time] 26)) (.cells #[.int .i64 0, .string ⟨#[]⟩, .slice none 0 0, .slice none 0 0, .int .i64 0] 30)
    rw [World.size_alloc] at h1
    exact (hb1.block _ (by rw [World.size_alloc, World.size_alloc]; omega)).trans h1
  have z0 := harr.cell (i := 0) rfl
  have z1 := harr.cell (i := 1) rfl
  have z2 := harr.cell (i := 2) rfl
  have z3 := harr.cell (i := 3) rfl
  have z4 := harr.cell (i := 4) rfl
  have f0 := harr.frozen 0
  have f1 := harr.frozen 1
  have f2 := harr.frozen 2
  have f3 := harr.frozen 3
  have f4 := harr.frozen 4
  have hl := harr.lt
  have harr5 := ((((harr.set 0 (.int .i64 0)).set 1 (.string ⟨#[]⟩)).set 2 (.slice none 0 0)).set 3 (.slice none 0 0)).set 4 (.int .i64 0)
  have y0 := harr5.cell (i := 0) rfl
  have y1 := harr5.cell (i := 1) rfl
  have y2 := harr5.cell (i := 2) rfl
  have y3 := harr5.cell (i := 3) rfl
  have y4 := harr5.cell (i := 4) rfl
  clear harr harr5
  go_wp2
  clear z0 z1 z2 z3 z4 f0 f1 f2 f3 f4
  exact bodyPost_ret (v := .tuple #[.agg #[.int .i64 0, .string ⟨#[]⟩, .slice none 0 0, .slice none 0 0, .int .i64 0], .int .i64 z]) (by simp [results, Tryz.results14, go_sem, y0, y1, y2, y3, y4]) rfl ⟨rfl, fr_set (fr_set (fr_set (fr_set (fr_set hb2 (by simp) _) (by simp) _) (by simp) _) (by simp) _) (by simp) _⟩
end Go.Proofs.Sm

namespace Go.Proofs.Sm
open Go.RowKit Go.Maps

theorem both_ok {a : ActionV} {F : List FileV} (h : bothErr a F = 0) : checkActionS a = 0 ∧ checkFilesS F = 0 ∧ touchesS a.outputs F = false := by
  unfold bothErr at h
  split at h
  · rename_i h1; exact absurd h h1
  rename_i h1
  split at h
  · rename_i h2; exact absurd h h2
  rename_i h2
  split at h
  · exact absurd h (by decide)
  rename_i h3
  exact ⟨Classical.not_not.1 h1, Classical.not_not.1 h2, by simpa using h3⟩
theorem action_parts {a : ActionV} (h : checkActionS a = 0) : (∀ c ∈ a.commands, checkCommandS c = 0) ∧ checkOutputsS a.outputs = 0 := by
  unfold checkActionS at h
  split at h
  · omega
  split at h
  · omega
  split at h
  · omega
  split at h
  · rename_i h1; exact absurd h h1
  split at h
  · rename_i h1; exact absurd h h1
  split at h
  · rename_i h1; exact absurd h h1
  rename_i h4 _ h6
  exact ⟨commandsErr_all (Classical.not_not.1 h4), Classical.not_not.1 h6⟩
theorem files_by {l : List FileV} (h : checkFilesS l = 0) : ByPath FileV.path l := by
  have hs := checkFiles_sorted h
  unfold ByPath
  rw [List.pairwise_iff_getElem]
  intro i j hi hj hij
  exact hs i j _ _ hij (List.getElem?_eq_getElem hi) (List.getElem?_eq_getElem hj)
theorem files_isP {l : List FileV} (h : checkFilesS l = 0) : ∀ x ∈ l, IsP x.path := by
  intro x hx
  obtain ⟨i, hi⟩ := List.getElem?_of_mem hx
  exact (filesErr_step none (checkFiles_err h).2.1 i x hi).2.1
theorem putFile_last {l : List FileV} {x : FileV} (h : ByPath FileV.path (l ++ [x])) : putFileS l x = l ++ [x] := by
  have h1 : ∀ y ∈ l, ltS y.path x.path = true := fun y hy => (List.pairwise_append.1 h).2.2 y hy x (by simp)
  have h2 : l.filter (fun y => ltS y.path x.path) = l := List.filter_eq_self.2 h1
  have h3 : l.filter (fun y => ltS x.path y.path) = [] := by
    rw [List.filter_eq_nil_iff]
    intro y hy h4
    have := ltS_trans (h1 y hy) h4
    rw [ltS_irrefl] at this
    cases this
  rw [putFileS, h2, h3, List.append_nil]
theorem putFile_take {F : List FileV} {k : Nat} {x : FileV} (h : ByPath FileV.path F) (hx : F[k]? = some x) : putFileS (F.take k) x = F.take (k + 1) := by
  have e : F.take (k + 1) = F.take k ++ [x] := by rw [List.take_add_one, hx]; rfl
  rw [e]
  refine putFile_last ?_
  rw [← e]
  exact List.Pairwise.sublist (List.take_sublist _ _) h
theorem findBy_mem {α : Type} {key : α → ByteArray} : ∀ {l : List α}, ByPath key l → ∀ x ∈ l, findBy key l (key x).data.toList = some x
  | [], _, x, hx => by cases hx
  | y :: l, h, x, hx => by
    have hp := List.pairwise_cons.1 h
    unfold findBy
    rw [List.find?_cons]
    rcases List.mem_cons.1 hx with rfl | hx
    · simp
    · have h1 : ((key y).data.toList == (key x).data.toList) = false := by
        have := ltS_ne (hp.1 x hx)
        simpa using this
      rw [h1]
      exact findBy_mem hp.2 x hx
theorem keyL_at {l : List Look} (h : ByPath Look.path l) {k : Nat} {x : Look} (hx : l[k]? = some x) : keyL l x.path.data.toList = some x := by
  rw [keyL_by]; exact findBy_mem h x (List.mem_of_getElem? hx)
theorem keyF_at {l : List FileV} (h : ByPath FileV.path l) {k : Nat} {x : FileV} (hx : l[k]? = some x) : keyF l x.path.data.toList = some x := by
  rw [keyF_by]; exact findBy_mem h x (List.mem_of_getElem? hx)
section
variable {P : Program} {k : TypeId} {w w' : World} {S : Nat → Prop} {m n : Nat} {l : List FileV} {q : List Look}
theorem FilesIn.call (h : FilesIn P k w S m n l) (hb : Below w.heap.size w w') (hS : ∀ k, S k → k < w.heap.size) : FilesIn P k w' S m n l := h.keep (hb.block m h.lt) fun k hk => hb.block k (hS k hk)
/-- the keys of a map of looks, in order -/
theorem looks_keys {ks : List ByteArray} (h : KeysAre (fun key => (keyL q key).map lookVal) ks) (hq : ByPath Look.path q) (hs : ∀ x ∈ q, x.path.size ≤ maxLen) : ks = q.map Look.path :=
  keys_by h hq (fun k => by rw [← keyL_by]; cases keyL q k <;> rfl) hs
theorem files_keys {f : List UInt8 → Option Value} {ks : List ByteArray} (h : KeysAre f ks) (hf : ∀ key, match keyF l key with
      | none => f key = none
      | some x => ∃ v, f key = some v ∧ FileVal w S x v) (hl : ByPath FileV.path l) (hs : ∀ x ∈ l, x.path.size ≤ maxLen) : ks = l.map FileV.path :=
  keys_by h hl (fun k => by
    have h1 := hf k
    rw [← keyF_by]
    cases hk : keyF l k with
    | none => rw [hk] at h1; simp only at h1; rw [h1]; rfl
    | some x => rw [hk] at h1; obtain ⟨v, h1, _⟩ := h1; rw [h1]; rfl) hs
theorem map_at {α β : Type} {f : α → β} {l : List α} {k : Nat} {y : β} (h : (l.map f)[k]? = some y) : ∃ x, l[k]? = some x ∧ f x = y := by
  rw [List.getElem?_map] at h
  cases hx : l[k]? with
  | none => rw [hx] at h; cases h
  | some x => rw [hx] at h; cases h; exact ⟨x, rfl, rfl⟩
end
/-- the maps of a worker as it starts -/
theorem start_maps (w1 : World) (o : Obj) (S : Nat → Prop) (hS : ∀ k, S k → k < w1.heap.size) : Below w1.heap.size w1 ((((w1.alloc (.map #[] 0)).alloc (.map #[] 0)).alloc (.map #[] 0)).alloc o) ∧ ((((w1.alloc (.map #[] 0)).alloc (.map #[] 0)).alloc (.map #[] 0)).alloc o).heap.size = w1.heap.size + 4 ∧
    FilesIn Tryz.prog 9 ((((w1.alloc (.map #[] 0)).alloc (.map #[] 0)).alloc (.map #[] 0)).alloc o) S w1.heap.size 0 [] ∧
    FilesIn Tryz.prog 9 ((((w1.alloc (.map #[] 0)).alloc (.map #[] 0)).alloc (.map #[] 0)).alloc o) S (w1.heap.size + 1) 0 [] ∧
    LooksIn Tryz.prog 9 ((((w1.alloc (.map #[] 0)).alloc (.map #[] 0)).alloc (.map #[] 0)).alloc o) (w1.heap.size + 1 + 1) 0 [] ∧
    ((((w1.alloc (.map #[] 0)).alloc (.map #[] 0)).alloc (.map #[] 0)).alloc o).heap[w1.heap.size + 1 + 1 + 1]? = some o := by
  have b1 := fr_alloc (fr_refl w1) (.map #[] 0)
  have b2 := fr_alloc (fr_refl (w1.alloc (.map #[] 0))) (.map #[] 0)
  have b3 := fr_alloc (fr_refl ((w1.alloc (.map #[] 0)).alloc (.map #[] 0))) (.map #[] 0)
  have b4 := fr_alloc (fr_refl (((w1.alloc (.map #[] 0)).alloc (.map #[] 0)).alloc (.map #[] 0))) o
  have s1 : (w1.alloc (.map #[] 0)).heap.size = w1.heap.size + 1 := World.size_alloc ..
  have s2 : ((w1.alloc (.map #[] 0)).alloc (.map #[] 0)).heap.size = w1.heap.size + 1 + 1 := by rw [World.size_alloc, s1]
  have s3 : (((w1.alloc (.map #[] 0)).alloc (.map #[] 0)).alloc (.map #[] 0)).heap.size = w1.heap.size + 1 + 1 + 1 := by rw [World.size_alloc, s2]
  have m1 := FilesIn.made (P := Tryz.prog) (k := 9) w1 S
  have m2 := FilesIn.made (P := Tryz.prog) (k := 9) (w1.alloc (.map #[] 0)) S
  have m3 := LooksIn.made (P := Tryz.prog) (k := 9) ((w1.alloc (.map #[] 0)).alloc (.map #[] 0))
  have o4 := heap_alloc_new (((w1.alloc (.map #[] 0)).alloc (.map #[] 0)).alloc (.map #[] 0)) o
  rw [s1] at m2
  rw [s2] at m3
  rw [s3] at o4
  refine ⟨fr_alloc (fr_alloc (fr_alloc b1 _) _) _, by rw [World.size_alloc, s3], ?_, ?_, ?_, o4⟩
  · exact ((m1.call b2 fun k hk => by have := hS k hk; omega).call b3 fun k hk => by have := hS k hk; omega).call b4 fun k hk => by have := hS k hk; omega
  · exact (m2.call b3 fun k hk => by have := hS k hk; omega).call b4 fun k hk => by have := hS k hk; omega
  · exact MapIs.call m3 b4
theorem FilesIn.empty {P : Program} {k : TypeId} {w : World} {S S' : Nat → Prop} {m n : Nat} (h : FilesIn P k w S m n []) : FilesIn P k w S' m n [] := by
  obtain ⟨f, h1, h2⟩ := h
  exact ⟨f, h1, fun key => h2 key⟩
/-- the worker behind the loop that puts the files in -/
theorem wk_start {w1 wr : World} {a : ActionV} {q : ActP} {F : List FileV} (hE : Env2 wr) (hG : 8 ≤ w1.heap.size) (ha : ActS wr (Lt w1.heap.size) a q) (hin : FilesIn Tryz.prog 9 wr (Lt w1.heap.size) w1.heap.size F.length F)
    (hblk : Arr wr (w1.heap.size + 1 + 1 + 1) 102 (wkCells a q w1.heap.size (w1.heap.size + 1) (w1.heap.size + 1 + 1) ⟨#[]⟩ 0)) (hwr : FilesIn Tryz.prog 9 wr (OffW (w1.heap.size + 1 + 1 + 1) w1.heap.size (w1.heap.size + 1) (w1.heap.size + 1 + 1) wr) (w1.heap.size + 1) 0 [])
    (hlo : LooksIn Tryz.prog 9 wr (w1.heap.size + 1 + 1) 0 []) (hn : F.length ≤ 1000) (hs : ∀ y ∈ F, y.bytes.length ≤ 100000) :
    Wk wr (OffW (w1.heap.size + 1 + 1 + 1) w1.heap.size (w1.heap.size + 1) (w1.heap.size + 1 + 1) wr) w1.heap.size (w1.heap.size + 1 + 1 + 1) w1.heap.size (w1.heap.size + 1) (w1.heap.size + 1 + 1) q a F 0 startS := by
  have hl := hblk.lt
  exact ⟨hE, hG, hblk, ha, hin, hwr.empty, hlo, ExOk.start a F, by omega, by omega, fun k hk => by have : k < w1.heap.size := hk; unfold OffW; omega, fun k hk => hk, hn, hs⟩
end Go.Proofs.Sm

namespace Go.Proofs.Sm
open Go.RowKit Go.Maps

def ExecPost (a : ActionV) (F : List FileV) (w : World) (e : Ending) (w' : World) : Prop :=
  ∃ A1 n1 c1 A2 n2 c2, e = .returned (.tuple #[resVal (execS a F) A1 n1 c1 A2 n2 c2, .int .i64 0]) ∧ ResIs w' (execS a F) A1 n1 A2 n2 ∧ Below w.heap.size w w'
/-- the same, and all that it leads to is new -/
def ExecNew (a : ActionV) (F : List FileV) (w : World) (e : Ending) (w' : World) : Prop :=
  ∃ A1 n1 c1 A2 n2 c2, e = .returned (.tuple #[resVal (execS a F) A1 n1 c1 A2 n2 c2, .int .i64 0]) ∧ ResS w' (fun k => w.heap.size ≤ k ∧ k < w'.heap.size) (execS a F) A1 n1 A2 n2 ∧ Below w.heap.size w w'
theorem ExecNew.post {a : ActionV} {F : List FileV} {w : World} {e : Ending} {w' : World} (h : ExecNew a F w e w') : ExecPost a F w e w' := by
  obtain ⟨A1, n1, c1, A2, n2, c2, h1, h2, h3⟩ := h
  exact ⟨A1, n1, c1, A2, n2, c2, h1, ⟨h2.code, h2.text, h2.files.more fun _ hk => hk.2, h2.looks.more fun _ hk => hk.2, h2.command⟩, h3⟩
theorem exec_of {a : ActionV} {F : List FileV} {code : Int} {cmd : Nat} {s : ExSt} (h : runE a a.commands 0 F startS = ((code, cmd), s)) : execS a F = ⟨code, ⟨s.told.toArray⟩, if code = 0 then s.written else [], s.looks, cmd⟩ := by
  unfold execS; rw [h]
/-- a file's values in the row -/
theorem file_val {w : World} {S : Nat → Prop} {x : FileV} {A : Option Addr} {n c : Nat} (h0 : x.path.size ≤ maxLen) (h1 : n ≤ c) (h2 : c ≤ maxLen) (h3 : Sl w S A n x.bytes) : FileVal w S x (.agg #[.string x.path, .bool x.run, .slice A n c]) := ⟨h0, A, n, c, rfl, h1, h2, h3⟩
/-- bytes do not lie where other things lie -/
theorem sl_not_cells {w : World} {S : Nat → Prop} {A : Option Addr} {n g : Nat} {l : List UInt8} {ty : TypeId} {vs : List Value} (h : Sl w S A n l) (hg : Arr w g ty vs) (hv : ∀ u ∈ vs, ∀ x : Int, u ≠ .int .u8 x) : Sl w (fun j => S j ∧ j ≠ g) A n l := by
  refine ⟨h.1, h.2.1, fun hn => ?_⟩
  obtain ⟨b, o, e, hb, hc⟩ := h.2.2 hn
  refine ⟨b, o, e, ⟨hb, ?_⟩, fun i x hx => ?_⟩
  · rintro rfl
    have hl0 : 0 < l.length := by have := h.1; omega
    obtain ⟨vs', hr, ha⟩ := hc 0 l[0] (List.getElem?_eq_getElem hl0)
    obtain rfl : vs' = [.int .u8 l[0].toNat] := hr
    have h1 := ha 0 _ rfl
    have hg' : w.heap[b]? = some (.cells vs.toArray ty (0, 0)) := hg
    rw [World.cell?, hg'] at h1
    simp at h1
    exact hv _ (List.mem_of_getElem? h1) _ rfl
  · obtain ⟨vs, hr, ha⟩ := hc i x hx
    exact ⟨vs, hr, ha⟩
theorem FilesIn.not_cells {P : Program} {k : TypeId} {w : World} {S : Nat → Prop} {m n g : Nat} {l : List FileV} {ty : TypeId} {vs : List Value} (h : FilesIn P k w S m n l) (hg : Arr w g ty vs) (hv : ∀ u ∈ vs, ∀ x : Int, u ≠ .int .u8 x) : FilesIn P k w (fun j => S j ∧ j ≠ g) m n l := by
  obtain ⟨f, h1, h2⟩ := h
  refine ⟨f, h1, fun key => ?_⟩
  have h3 := h2 key
  cases hk : keyF l key with
  | none => rw [hk] at h3; exact h3
  | some x =>
    rw [hk] at h3
    obtain ⟨v, h4, h0, A, n, c, rfl, h5, h6, h7⟩ := h3
    exact ⟨_, h4, h0, A, n, c, rfl, h5, h6, sl_not_cells h7 hg hv⟩
theorem no_u8 {a e : Int} {b : ByteArray} {A B : Option Addr} {n c m d : Nat} : ∀ u ∈ ([.int .i64 a, .string b, .slice A n c, .slice B m d, .int .i64 e] : List Value), ∀ x : Int, u ≠ .int .u8 x := by
  intro u hu x
  simp only [List.mem_cons, List.mem_nil_iff, or_false] at hu
  rcases hu with rfl | rfl | rfl | rfl | rfl <;> (intro h; cases h)
/-- a row that a cell of a box holds, with one more -/
theorem row_more {α : Type} [Rep α] {w6 wr w9 : World} {r10 i : Nat} {o : Obj} {K : Nat → Prop} {L : List α} {y : α} {v v' : Value} {rows : List (List Value)} {r vs : List Value} {ty e : TypeId} (hA : Arr wr r10 ty vs) (hrow : RowK wr w6.heap.size e K v L) (hK : ∀ k, K k → k < w6.heap.size ∧ k ≠ r10) (hr : rows.length = L.length)
    (hrep : ∀ (i : Nat) (x : α) (r : List Value), L[i]? = some x → rows[i]? = some r → Rep.rep wr K x r) (hy : Rep.rep wr K y r) (hkp : Kp (fun j => j = r10) w6 wr) (hr10 : r10 < w6.heap.size) (hg : (wr.alloc o).drew.grownBy w9 v.ownBlock) (hown' : w9.ownsRow w6.heap.size e (Rep.sz α) v' (L.length + 1) (rows.flatten ++ r)) :
    Arr w9 r10 ty vs ∧ RowK (w9.setCell ⟨r10, i, none⟩ v') w6.heap.size e K v' (L ++ [y]) ∧ Arr (w9.setCell ⟨r10, i, none⟩ v') r10 ty (vs.set i v') ∧ Kp (fun j => j = r10) w6 (w9.setCell ⟨r10, i, none⟩ v') := by
  have hz := hkp.size
  have hzd : (wr.alloc o).drew.heap.size = wr.heap.size + 1 := World.size_alloc ..
  have hkk : ∀ k, K k → (wr.alloc o).drew.heap[k]? = wr.heap[k]? := fun k hk => Below.heap_alloc _ _ _ (by have := (hK k hk).1; omega)
  have hA1 : Arr (wr.alloc o).drew r10 ty vs := hA.keep (Below.heap_alloc _ _ _ hA.lt)
  have hA9 : Arr w9 r10 ty vs := hA1.grown hg (fun e => by have := (hrow.kind _ e).1; omega)
  have hrow9 := RowK.append (x := y) (w := (wr.alloc o).drew) (rows := rows) (fun k hk => by have := (hK k hk).1; omega) hr (fun i x r hx hr => Rep.keep hkk (hrep i x r hx hr)) (Rep.keep hkk hy) (fun g e hk => by have := (hrow.kind g e).1; have := (hK g hk).1; omega) hg hown'
  have hk9 : Kp (fun j => j = r10) w6 w9 := ((hkp.alloc o).drew).grown hg (fun g e => .inr (hrow.kind g e).1)
  exact ⟨hA9, hrow9.keep (by rw [size_setCell']; exact Nat.le_refl _) (fun k hk => heap_setCell_other _ _ _ _ (hK k hk).2) (fun g e => heap_setCell_other _ _ _ _ (by have := (hrow9.kind g e).1; show g ≠ r10; omega)), hA9.set i v', hk9.set (p := ⟨r10, i, none⟩) (show r10 = r10 from rfl) v'⟩
theorem file_info4 : (Tryz.prog.info? 50).map (fun i => (i.zero, i.size, i.bytes)) = some (some (.agg #[.string ⟨#[]⟩, .bool false, .slice none 0 0]), 3, 48) := by kernel_rfl
theorem new_cells_d (w : World) (cs : Array Value) (t : TypeId) : ∀ (j : Nat) u, cs.toList[j]? = some u → (w.alloc (.cells cs t)).drew.cell? ((⟨w.heap.size, 0, none⟩ : Addr).add j) = some u := new_cells w cs t
theorem three_ones {a b c : Value} (ha : a.oneCell' = true) (hb : b.oneCell' = true) (hc : c.oneCell' = true) : ∀ u ∈ ([a, b, c] : List Value), u.oneCell' = true := by
  intro u hu
  simp only [List.mem_cons, List.mem_nil_iff, or_false] at hu
  rcases hu with rfl | rfl | rfl
  · exact ha
  · exact hb
  · exact hc
/-- the inputs with one more -/
theorem in_more {w0 wr w5 : World} {F : List FileV} {k m : Nat} {x : FileV} {v : Value} {f : List UInt8 → Option Value} (hby : ByPath FileV.path F) (hx : F[k]? = some x)
    (hf : ∀ key, match keyF (F.take k) key with
      | none => f key = none
      | some x => ∃ v, f key = some v ∧ FileVal wr (Lt w0.heap.size) x v) (hv : FileVal wr (Lt w0.heap.size) x v)
    (hm : MapIs Tryz.prog 9 w5 m (k + 1) (fun key => if key = x.path.data.toList then some v else f key)) (hk : ∀ k, Lt w0.heap.size k → w5.heap[k]? = wr.heap[k]?) : FilesIn Tryz.prog 9 w5 (Lt w0.heap.size) m (k + 1) (F.take (k + 1)) := by
  rw [← putFile_take hby hx]
  exact FilesIn.put hf hv hm hk
theorem exec_end {a : ActionV} {F : List FileV} {w wr WE : World} {R : ResultV} {r4 : Nat} {A1 A2 : Option Addr} {n1 c1 n2 c2 : Nat} (hX : execS a F = R) (ho : ResOk R) (hb : Below w.heap.size w wr) (hk : Kp (fun j => j = r4) wr WE) (hr4 : w.heap.size ≤ r4) (hs1 : Sl wr (fun k => w.heap.size ≤ k ∧ k ≠ r4 ∧ k < wr.heap.size) A1 n1 R.files) (hs2 : Sl wr (fun k => w.heap.size ≤ k ∧ k ≠ r4 ∧ k < wr.heap.size) A2 n2 R.looks) :
    ExecNew a F w (.returned (.tuple #[.agg #[.int .i64 R.code, .string R.text, .slice A1 n1 c1, .slice A2 n2 c2, .int .i64 R.command], .int .i64 0])) WE := by
  unfold ExecNew
  rw [hX]
  refine ⟨A1, n1, c1, A2, n2, c2, rfl, ⟨by have := ho.code; unfold InInt; omega, by have := ho.text; unfold maxLen; omega, ?_, ?_, by have := ho.command; unfold InInt; omega⟩, hb.trans (hk.below (fun k hk e => by have : k = r4 := e; omega) hb.size)⟩
  · exact (hs1.keep fun k hh => hk.block k hh.2.2 hh.2.1).more fun k hh => ⟨hh.1, Nat.lt_of_lt_of_le hh.2.2 hk.size⟩
  · exact (hs2.keep fun k hh => hk.block k hh.2.2 hh.2.1).more fun k hh => ⟨hh.1, Nat.lt_of_lt_of_le hh.2.2 hk.size⟩
set_option maxHeartbeats 4000000 in
set_option maxRecDepth 100000 in
theorem exec_new (a : ActionV) (A : Option Addr) (n n' : Nat) (B : Option Addr) (m m' : Nat) (C : Option Addr) (p p' : Nat) (D : Option Addr) (q q' : Nat) (L : Option Addr) (nl cl : Nat) (F : List FileV) (w : World) (hE : Env2 w) (ha : ActIs w a A n B m C p D q) (hsl : Sl w (Lt w.heap.size) L nl F) (hok : bothErr a F = 0) :
    Calls Tryz.prog 14 #[actVal a A n n' B m m' C p p' D q q', .slice L nl cl] w (ExecNew a F w) := by
  obtain ⟨hca, hcf, _⟩ := both_ok hok
  obtain ⟨hcc, hco⟩ := action_parts hca
  have hao := checkAction_ok hca
  have HBy := Lib.hid (files_by hcf)
  have HFs := Lib.hid (files_sizes hcf)
  have HLn := Lib.hid hsl.1
  have hFn := checkFiles_len hcf
  rw [hsl.1] at hFn
  have hm : nl ≤ 9223372036854775807 := by omega
  have HC := Lib.hid (fun w1 (hb : Below w.heap.size w w1) => act_checkBoth a A n n' B m m' C p p' D q q' L nl cl F w1 (hE.then_ hb).toEnv (ha.then_ hb) (sl_call hsl hb (Nat.le_refl _)))
  unfold actVal at *
  rw [hok] at HC
  have hmm := @run_makeMap Tryz.prog
  go_enter Tryz.func14, Tryz.ntmps14
  go_wp2_with fail
  refine (HC.out _ (fr_alloc (fr_alloc (fr_refl w) _) _)).mono ?_
  rintro e w1 ⟨rfl, hb1⟩
  have hb2 := fr_call (fr_alloc (fr_alloc (fr_refl w) _) _) hb1
  have hsz1 := hb1.size
  rw [World.size_alloc, World.size_alloc] at hsz1
  have hact : Arr w1 w.heap.size 26 [.string a.tool, .slice A n n', .slice B m m', .slice C p p', .slice D q q', .int .i64 a.time] := by
    have h1 := heap_alloc_new w (.cells #[.string a.tool, .slice A n n', .slice B m m', .slice C p p', .slice D q q', .int .i64 a.time] 26)
    exact (hb1.block _ (by rw [World.size_alloc, World.size_alloc]; omega)).trans ((Below.heap_alloc _ _ _ (by rw [World.size_alloc]; omega)).trans h1)
  have hres : Arr w1 (w.heap.size + 1) 30 [.int .i64 0, .string ⟨#[]⟩, .slice none 0 0, .slice none 0 0, .int .i64 0] := by
    have h1 := heap_alloc_new (w.alloc (.cells #[.string a.tool, .slice A n n', .slice B m m', .slice C p p', .slice D q q', .int .i64 a.time] 26)) (.cells #[.int .i64 0, .string ⟨#[]⟩, .slice none 0 0, .slice none 0 0, .int .i64 0] 30)
    rw [World.size_alloc] at h1
    exact (hb1.block _ (by rw [World.size_alloc, World.size_alloc]; omega)).trans h1
  have z0 := hact.cell (i := 0) rfl
  have z1 := hact.cell (i := 1) rfl
  have z2 := hact.cell (i := 2) rfl
  have z3 := hact.cell (i := 3) rfl
  have z4 := hact.cell (i := 4) rfl
  have z5 := hact.cell (i := 5) rfl
  have hgl := hact.lt
  have HE1 := Lib.hid (hE.then_ hb2)
  have HA1 := Lib.hid (ha.then_ hb2)
  have HS1 := Lib.hid (sl_call hsl hb2 (Nat.le_refl _))
  have HB1 := Lib.hid hb2
  clear hb1 hb2 hE ha hsl hact HC
  go_wp2
  obtain ⟨ActO, hO⟩ : ∃ o : Obj, o = (.cells #[.string a.tool, .slice A n n', .slice B m m', .slice C p p', .slice D q q', .int .i64 a.time, .map (some w1.heap.size), .map (some (w1.heap.size + 1)), .map (some (w1.heap.size + 1 + 1)), .string ⟨#[]⟩, .int .i64 0] 102) := ⟨_, rfl⟩
  rw [← hO]
  obtain ⟨s1, s2, s3, s4, s5, s6⟩ := start_maps w1 ActO (Lt w1.heap.size) fun _ h => h
  generalize hw2 : (((w1.alloc (.map #[] 0)).alloc (.map #[] 0)).alloc (.map #[] 0)).alloc ActO = w2 at *
  clear hw2
  rw [hO] at s6
  have hbk2 : Arr w2 (w1.heap.size + 1 + 1 + 1) 102 (wkCells a ⟨A, n, n', B, m, m', C, p, p', D, q, q'⟩ w1.heap.size (w1.heap.size + 1) (w1.heap.size + 1 + 1) ⟨#[]⟩ 0) := s6
  have HBk := Lib.hid (fun wx (hk : Kp (fun j => j = w1.heap.size) w2 wx) => hbk2.keep (hk.block (w1.heap.size + 1 + 1 + 1) (by omega) (show ¬ (w1.heap.size + 1 + 1 + 1 = w1.heap.size) by omega)))
  clear s6
  have HLow := Lib.hid (show w.heap.size + 2 ≤ w1.heap.size by omega)
  clear hO
  go_loopw [30] (fun i wr => ∃ k : Nat, k ≤ nl ∧ i = .int .i64 k ∧ FilesIn Tryz.prog 9 wr (Lt w1.heap.size) w1.heap.size k (F.take k) ∧ Kp (fun j => j = w1.heap.size) w2 wr ∧ Below w1.heap.size w1 wr) (fun i _ => nl - (intOf i).toNat)
  case atStart => exact ⟨0, Nat.zero_le _, rfl, s3, Kp.refl _ _, s1⟩
  case round =>
    clear s1 s3
    obtain ⟨k, hk, rfl, hfi, hkp, hbel⟩ := hrel
    have hzr := hbel.size
    by_cases hlt : k < nl
    · obtain ⟨b, o, x, A', n'', c'', rfl, hb, hx, hs1, hnc, hcm, hsl', c0, c1, c2⟩ := (HS1.out.keep fun k hk => hbel.block k hk).file hlt
      have hkI : (k : Int) < (nl : Int) := by omega
      obtain ⟨f, hf1, hf2⟩ := hfi
      have HV := Lib.hid (file_val hs1 hnc hcm hsl')
      have HX := Lib.hid hx
      have HF2 := Lib.hid hf2
      clear hx hf2 hsl'
      have c6 := (HBk.out wr hkp).cell (i := 6) rfl
      have hgr := (HBk.out wr hkp).lt
      go_wp2
      have hX := box3_new wr (.string x.path) (.bool x.run) (.slice A' n'' c'') 50
      have hbV := fr_alloc (fr_refl wr) (.cells #[.string x.path, .bool x.run, .slice A' n'' c''] 50)
      have d6 := (hbV.cell (p := ⟨w1.heap.size + 1 + 1 + 1, 6, none⟩) hgr).trans c6
      have hzV : (wr.alloc (.cells #[.string x.path, .bool x.run, .slice A' n'' c''] 50)).heap.size = wr.heap.size + 1 := World.size_alloc ..
      generalize wr.alloc (.cells #[.string x.path, .bool x.run, .slice A' n'' c''] 50) = V at *
      have hm1 := hf1.call hbV
      have hzD : V.drew.heap.size = wr.heap.size + 1 := hzV
      obtain ⟨⟨x0, x1, x2⟩, _, xl⟩ := hX
      clear c0 c1 c2 c6
      go_still_tail 7, (by kernel_rfl)
      change wpList _ _ _ _ _ V.drew
      go_wp2_with (
        at_mapUpdate
        refine wpList_mapUpdate_is _ rfl _ _ _ 99 rfl Tryz.underlying9 map_file_under rfl (hm1.keep rfl) (by unfold maxLen; omega) x.path hs1 (.agg #[.string x.path, .bool x.run, .slice A' n'' c'']) rfl rfl ?_
        intro w5 hm5 hg5)
      have hb5 := (fr_call hbel hbV).drew.grown hg5 (by omega) (fun j hj => by cases hj; exact Nat.le_refl _)
      have hk5 := ((hkp.call hbV).drew).grown hg5 (fun j e => .inl (by cases e; rfl))
      have hfi5 := in_more HBy.out HX.out HF2.out HV.out hm5 (fun j hj => (hg5.block j (by have : j < w1.heap.size := hj; omega) (fun e => by cases e; exact Nat.lt_irrefl _ hj)).trans (hbV.block j (by have : j < w1.heap.size := hj; omega)))
      go_roundw
      case rel => exact ⟨k + 1, by omega, by go_num, hfi5, hk5, hb5⟩
      case measure => simp [intOf]; omega
    · obtain rfl : k = nl := by omega
      rw [List.take_of_length_le (by rw [HLn.out]; exact Nat.le_refl _)] at hfi
      have hG := HE1.out.size
      have hzw2 := hkp.size
      have hblk := HBk.out wr hkp
      have hW := wk_start (a := a) (q := ⟨A, n, n', B, m, m', C, p, p', D, q, q'⟩) (F := F) (HE1.out.then_ hbel) hG (ActS.keep ⟨HA1.out.tool, HA1.out.commands, HA1.out.vars, HA1.out.outputs, HA1.out.needs, HA1.out.time⟩ fun j hj => hbel.block j hj) (by rw [HLn.out]; exact hfi) hblk
        ((s4.keep (hkp.block _ (by omega) (by omega)) fun j hj => hkp.block j (by have : j < w1.heap.size := hj; omega) (by have : j < w1.heap.size := hj; omega)).more fun j hj => by have : j < w1.heap.size := hj; unfold OffW; omega)
        (MapIs.keep s5 (hkp.block _ (by omega) (by omega))) (by rw [HLn.out]; exact hFn) fun y hy => (HFs.out y hy).2
      have hRes := result_right (F := F) hcc hao.commands hco (files_isP hcf) (by rw [HLn.out]; exact hFn)
      have HOk := checkResult_ok hRes.right
      have HR := Lib.hid (fun wx (hb : Below wr.heap.size wr wx) => act_run _ w1.heap.size (w1.heap.size + 1 + 1 + 1) w1.heap.size (w1.heap.size + 1) (w1.heap.size + 1 + 1) ⟨A, n, n', B, m, m', C, p, p', D, q, q'⟩ a F startS wx (hW.call hb) hcc hao.commands (fun v hv => by have := (hao.var v hv).2; omega) (fun x hx => by have := (HFs.out x hx).1; omega) (by have := hao.outputs; omega) (outs_parts hco).2.1)
      clear hfi hblk hW hcc hao hca hcf HFs HBy hRes s4 s5 HBk hco
      go_wp2_with fail
      refine (HR.out _ (fr_alloc (fr_refl wr) _)).mono ?_
      rintro e w4 hpost
      unfold RunPost at hpost
      obtain ⟨hk4, hW4, rfl⟩ := hpost
      have hr1 := heap_alloc_new wr (.cells #[.int .i64 0, .string ⟨#[]⟩, .slice none 0 0, .slice none 0 0, .int .i64 0] 30)
      obtain ⟨r, hr⟩ : ∃ r, runE a a.commands 0 F startS = r := ⟨_, rfl⟩
      obtain ⟨⟨code, cmd⟩, s⟩ := r
      rw [hr] at hW4 ⊢
      have hX := exec_of hr
      rw [hX] at HOk
      have HX := Lib.hid hX
      have HO := Lib.hid HOk
      clear hX HOk
      clear hr HR
      simp only at hW4 ⊢
      have hzr4 := hk4.size
      rw [World.size_alloc] at hzr4
      have hrA : Arr w4 wr.heap.size 30 [.int .i64 0, .string ⟨#[]⟩, .slice none 0 0, .slice none 0 0, .int .i64 0] := (hk4.block wr.heap.size (by rw [World.size_alloc]; omega) (by omega)).trans hr1
      have hres4 : Arr w4 (w.heap.size + 1) 30 [.int .i64 0, .string ⟨#[]⟩, .slice none 0 0, .slice none 0 0, .int .i64 0] := ((hk4.block (w.heap.size + 1) (by rw [World.size_alloc]; have := HLow.out; omega) (by have := HLow.out; omega)).trans ((Below.heap_alloc _ _ _ (by have := HLow.out; omega)).trans (hbel.block _ (by have := HLow.out; omega)))).trans hres
      have hb4 : Below w.heap.size w w4 := (HB1.out.trans ((fr_alloc hbel (.cells #[.int .i64 0, .string ⟨#[]⟩, .slice none 0 0, .slice none 0 0, .int .i64 0] 30)).mono (by have := HLow.out; omega))).trans (hk4.below (fun k hk => by have := HLow.out; omega) (by rw [World.size_alloc]; have := HLow.out; omega))
      obtain ⟨r10, hr10⟩ : ∃ r, r = wr.heap.size := ⟨_, rfl⟩
      rw [← hr10] at hrA hzr4 ⊢
      have hr10b : w1.heap.size + 4 ≤ r10 := by omega
      have hne : ¬ (w1.heap.size + 1 + 1 + 1 = r10) := by omega
      have hne2 : ¬ (w.heap.size + 1 = r10) := by have := HLow.out; omega
      have kk8 := hW4.blk.cell (i := 8) rfl
      have kk9 := hW4.blk.cell (i := 9) rfl
      have hgl4 := hW4.blk.lt
      clear hr1 hk4 hkp hbel hzr hzw2 hr10 z0 z1 z2 z3 z4 z5 hres HLn HS1 HA1 HE1 HB1 hG hgl hsz1
      have c0 := hrA.cell (i := 0) rfl
      have c1 := hrA.cell (i := 1) rfl
      have c2 := hrA.cell (i := 2) rfl
      have c3 := hrA.cell (i := 3) rfl
      have c4 := hrA.cell (i := 4) rfl
      have f0 := hrA.frozen 0
      have f1 := hrA.frozen 1
      have f4 := hrA.frozen 4
      have hrl := hrA.lt
      have hwr4 := (hW4.new.not_cells hrA no_u8).not_cells hres4 no_u8
      have hlo4 := hW4.lok
      have hok4 := hW4.ok
      have kk7 := hW4.blk.cell (i := 7) rfl
      have hlts : w1.heap.size + 1 < w4.heap.size ∧ w1.heap.size + 1 + 1 < w4.heap.size := ⟨hW4.wri.lt, MapIs.lt hW4.lok⟩
      have HLk := Lib.hid hok4.looks.sorted
      have HWr := Lib.hid hok4.wrote.sorted
      clear hW4 hok4
      go_wp2_with fail
      generalize hW5 : World.setCell (World.setCell (World.setCell w4 _ _) _ _) _ _ = W5
      have hA5 : Arr W5 r10 30 [.int .i64 code, .string ⟨s.told.toArray⟩, .slice none 0 0, .slice none 0 0, .int .i64 cmd] := by
        rw [← hW5]; exact ((hrA.set 0 _).set 4 _).set 1 _
      have hkp5 : Kp (fun k => k = r10) w4 W5 := by
        rw [← hW5]
        exact Kp.set (p := ⟨r10, 1, none⟩) (Kp.set (p := ⟨r10, 4, none⟩) (Kp.set (p := ⟨r10, 0, none⟩) (Kp.refl (fun k => k = r10) w4) (show r10 = r10 from rfl) _) (show r10 = r10 from rfl) _) (show r10 = r10 from rfl) _
      have hz5 := hkp5.size
      have hne3 : w.heap.size + 1 < w4.heap.size := hres4.lt
      have hres5 := hres4.keep (hkp5.block _ hne3 hne2)
      have hlo5 := MapIs.keep hlo4 (hkp5.block _ hlts.2 (by omega))
      have hwr5 := hwr4.keep (hkp5.block _ hlts.1 (by omega)) fun k hk => hkp5.block k hk.1.1.2.1 hk.1.2
      have hb5 := hb4.trans (hkp5.below (B := w.heap.size) (fun k hk (e : k = r10) => by have := HLow.out; omega) (by omega))
      have k7 := (World.cell?_of_block (a := ⟨w1.heap.size + 1 + 1 + 1, 7, none⟩) (hkp5.block _ hgl4 hne)).trans kk7
      have k8 := (World.cell?_of_block (a := ⟨w1.heap.size + 1 + 1 + 1, 8, none⟩) (hkp5.block _ hgl4 hne)).trans kk8
      have hgl5 : w1.heap.size + 1 + 1 + 1 < W5.heap.size := by omega
      clear hW5 hkp5 hres4 hlo4 hwr4 hb4 kk7 kk8 kk9 c0 c1 c2 c3 c4 f0 f1 f4 hrA hrl
      have hN := checkLooks_len HO.out.looks
      simp only at hN
      have hLs : ∀ x ∈ s.looks, x.path.size ≤ maxLen ∧ x.digest.size ≤ maxLen := fun x hx => by have := looks_sizes HO.out.looks x hx; unfold maxLen; omega
      refine (keys_mapstringsmithyardapiLook (w1.heap.size + 1 + 1) W5).mono ?_
      rintro e w8' ⟨rfl, rfl⟩
      go_wp2_with fail
      refine (sorted_mapLook (w1.heap.size + 1 + 1) s.looks.length (fun key => (keyL s.looks key).map lookVal) W5 hlo5 (by omega)).mono ?_
      rintro e w6 ⟨ks, A8, c8, rfl, hks, hc81, hc82, hs8, hb6⟩
      have hks2 : ks = s.looks.map Look.path := looks_keys hks HLk.out fun x hx => (hLs x hx).1
      have hkl : ks.length = s.looks.length := by rw [hks2, List.length_map]
      have hz6 := hb6.size
      have hA6 := hA5.call hb6
      have hres6 := hres5.call hb6
      have hlo6 := MapIs.call hlo5 hb6
      have hwr6 := hwr5.keep (hb6.block _ hwr5.lt) fun k hk => hb6.block k (by have := hk.1.1.2.1; omega)
      have hb06 := fr_call hb5 hb6
      have j7 := (hb6.cell (p := ⟨w1.heap.size + 1 + 1 + 1, 7, none⟩) hgl5).trans k7
      have j8 := (hb6.cell (p := ⟨w1.heap.size + 1 + 1 + 1, 8, none⟩) hgl5).trans k8
      have hgl6 : w1.heap.size + 1 + 1 + 1 < w6.heap.size := by omega
      have hm6 : ks.length ≤ 9223372036854775807 := by omega
      have hrl6 := hA6.lt
      have HKs := Lib.hid hks2
      have HLs := Lib.hid hLs
      have HN := Lib.hid hkl
      clear hks hks2 hb6 hb5 hA5 hres5 hlo5 hwr5 k7 k8 hLs hkl
      obtain ⟨i0, hi0, hz0, hz1, hz2⟩ := info_parts look_info
      go_wp2
      go_loopw [61] (fun i wr => ∃ (k : Nat) (vL : Value), k ≤ ks.length ∧ i = .int .i64 k ∧ Arr wr r10 30 [.int .i64 code, .string ⟨s.told.toArray⟩, .slice none 0 0, vL, .int .i64 cmd] ∧ RowK wr w6.heap.size 38 (fun _ => False) vL (s.looks.take k) ∧ Kp (fun j => j = r10) w6 wr) (fun i _ => ks.length - (intOf i).toNat)
      case atStart => exact ⟨0, _, Nat.zero_le _, rfl, hA6, RowK.nil, Kp.refl _ _⟩
      case round =>
        clear hA6
        obtain ⟨k, vL, hk, rfl, hA, hrow, hkp⟩ := hrel
        have hzr := hkp.size
        by_cases hlt : k < ks.length
        · obtain ⟨b, o, x, rfl, hb, hx, hxs, e0⟩ := (hs8.keep fun j hj => hkp.block j hj.2 (fun e : j = r10 => by have := hj.1; omega)).str hlt
          obtain ⟨y, hy, rfl⟩ := map_at (f := Look.path) (l := s.looks) (by rw [← HKs.out]; exact hx)
          have hkI : (k : Int) < (ks.length : Int) := by omega
          have hys := HLs.out y (List.mem_of_getElem? hy)
          have hmr := MapIs.keep hlo6 (w' := wr.drew) (hkp.block _ (MapIs.lt hlo6) (show ¬ (w1.heap.size + 1 + 1 = r10) by omega))
          have hlk : (Instr.lookup 100 (.map (some (w1.heap.size + 1 + 1))) (.string y.path) false).run Tryz.prog wr.drew = .ok (.agg #[.string y.path, .string y.digest, .bool y.run]) wr.drew := by
            rw [hmr.look Tryz.underlying9 map_look_under (look_zero wr.drew) hys.1, keyL_at HLk.out hy]; rfl
          have hlen : (s.looks.take k).length = k := by rw [List.length_take]; have := HN.out; omega
          obtain ⟨_, rows, hrows, hown, hrep⟩ := id hrow
          have HT := Lib.hid (show s.looks.take (k + 1) = s.looks.take k ++ [y] by rw [List.take_add_one, hy]; rfl)
          have HJ := Lib.hid (fun o w9 v' hg hown' => row_more (o := o) (w9 := w9) (v' := v') (i := 3) (r := [.string y.path, .string y.digest, .bool y.run]) (y := y) hA hrow (fun _ hh => hh.elim) hrows hrep ⟨rfl, hys⟩ hkp hrl6 hg hown')
          rw [hlen] at hown HJ
          have H9 := Lib.hid (fun o => show ((wr.alloc o).drew).ownsRow w6.heap.size 38 3 vL k rows.flatten from hown.alloc o)
          have H63 := Lib.hid (show k + 1 ≤ maxLen by have := HN.out; unfold maxLen; omega)
          have H48 := Lib.hid (show (k + 1) * 40 ≤ 140737488355328 by have := HN.out; omega)
          have HB9 := Lib.hid (fun o => show w6.heap.size ≤ (wr.alloc o).drew.heap.size from by have e : (wr.alloc o).drew.heap.size = wr.heap.size + 1 := World.size_alloc ..; omega)
          have v3 := hA.cell (i := 3) rfl
          have v8 := (World.cell?_of_block (a := ⟨w1.heap.size + 1 + 1 + 1, 8, none⟩) (hkp.block _ hgl6 hne)).trans j8
          have hgr : w1.heap.size + 1 + 1 + 1 < wr.heap.size := by omega
          have hrr : r10 < wr.heap.size := by omega
          clear hx hy hmr hrow hrows hown hrep hA hb hlen hys
          go_wp2
          go_region_law (first
            | (refine step_append_lies _ rfl _ _ 28 rfl w6.heap.size 38 i0 _ 3 40 Tryz.underlying28 hi0 hz0 hz1 hz2 rfl (by decide) _ k _ rfl (H9.out _) ⟨wr.heap.size, 0, none⟩ 1 1 [.string y.path, .string y.digest, .bool y.run] rfl rfl (new_cells_d wr #[_, _, _] _) (three_ones rfl rfl rfl) (by decide) H63.out H48.out (HB9.out _) _ rfl ?_
               intro g' cap w9 hown' hgrow hat hlt'
               obtain ⟨hA9, hrow9, hA10, hk9⟩ := HJ.out _ _ _ hgrow hown'
               have u3 := hA9.cell (i := 3) rfl
               have uf := hA9.frozen 3
               have ul := hA9.lt))
          all_goals
            go_wp2
            go_roundw
            case rel => exact ⟨k + 1, _, by omega, by go_num, hA10, by rw [HT.out]; exact hrow9, hk9⟩
            case measure => simp [intOf]; omega
        · obtain rfl : k = ks.length := by omega
          rw [List.take_of_length_le (by have := HN.out; omega)] at hrow
          have hresR := hres6.keep (hkp.block _ hres6.lt hne2)
          have hwrR := hwr6.keep (hkp.block _ hwr6.lt (show ¬ (w1.heap.size + 1 = r10) by omega)) fun k hk => hkp.block k (by have := hk.1.1.2.1; omega) hk.1.2
          have hb0R := hb06.trans (hkp.below (B := w.heap.size) (fun k hk (e : k = r10) => by have := HLow.out; omega) (by have := hb06.size; omega))
          have v7 := (World.cell?_of_block (a := ⟨w1.heap.size + 1 + 1 + 1, 7, none⟩) (hkp.block _ hgl6 hne)).trans j7
          have hgr : w1.heap.size + 1 + 1 + 1 < wr.heap.size := by omega
          have hrr : r10 < wr.heap.size := by omega
          obtain ⟨A2, c2, rfl, h21, h22, hs2⟩ := hrow.slFrom
          have v0 := hA.cell (i := 0) rfl
          have v1 := hA.cell (i := 1) rfl
          have v2 := hA.cell (i := 2) rfl
          have v3 := hA.cell (i := 3) rfl
          have v4 := hA.cell (i := 4) rfl
          have hr10w : w.heap.size + 1 < r10 := by have := HLow.out; omega
          clear hs8 hkp hres6 hwr6 hb06 j7 j8 hlo6 hrow
          rcases Decidable.em (¬ code = 0) with hz | hz
          · have hzb : (code == 0) = false := by simpa using hz
            have HF := Lib.hid (show execS a F = ⟨code, ⟨s.told.toArray⟩, [], s.looks, cmd⟩ by rw [HX.out, if_neg hz])
            have HEnd := Lib.hid (fun WE (hk : Kp (fun j => j = w.heap.size + 1) wr WE) => exec_end (c1 := 0) (c2 := c2) HF.out (HF.out ▸ HX.out ▸ HO.out) hb0R hk (Nat.le_succ _) Sl.nil (hs2.more fun k hk => ⟨by have := hk.1; omega, by have := hk.1; omega, hk.2⟩))
            have e0 := hresR.cell (i := 0) rfl
            have e1 := hresR.cell (i := 1) rfl
            have e2 := hresR.cell (i := 2) rfl
            have e3 := hresR.cell (i := 3) rfl
            have e4 := hresR.cell (i := 4) rfl
            have g0 := hresR.frozen 0
            have g1 := hresR.frozen 1
            have g2 := hresR.frozen 2
            have g3 := hresR.frozen 3
            have g4 := hresR.frozen 4
            have hrl4 := hresR.lt
            have hne4 : ¬ (r10 = w.heap.size + 1) := by omega
            go_wp2
            generalize hWE : World.setCell (World.setCell (World.setCell (World.setCell (World.setCell wr _ _) _ _) _ _) _ _) _ _ = WE
            have hE5 : Arr WE (w.heap.size + 1) 30 [.int .i64 code, .string ⟨s.told.toArray⟩, (.slice none 0 0), .slice A2 s.looks.length c2, .int .i64 cmd] := by
              rw [← hWE]; exact ((((hresR.set 0 _).set 1 _).set 2 _).set 3 _).set 4 _
            have hkE : Kp (fun j => j = w.heap.size + 1) wr WE := by
              rw [← hWE]
              exact Kp.set (p := ⟨w.heap.size + 1, 4, none⟩) (Kp.set (p := ⟨w.heap.size + 1, 3, none⟩) (Kp.set (p := ⟨w.heap.size + 1, 2, none⟩) (Kp.set (p := ⟨w.heap.size + 1, 1, none⟩) (Kp.set (p := ⟨w.heap.size + 1, 0, none⟩) (Kp.refl (fun j => j = w.heap.size + 1) wr) rfl _) rfl _) rfl _) rfl _) rfl _
            clear hWE e0 e1 e2 e3 e4 g0 g1 g2 g3 g4
            have y0 := hE5.cell (i := 0) rfl
            have y1 := hE5.cell (i := 1) rfl
            have y2 := hE5.cell (i := 2) rfl
            have y3 := hE5.cell (i := 3) rfl
            have y4 := hE5.cell (i := 4) rfl
            exact bodyPost_ret (v := .tuple #[.agg #[.int .i64 code, .string ⟨s.told.toArray⟩, (.slice none 0 0), .slice A2 s.looks.length c2, .int .i64 cmd], .int .i64 0]) (by simp [results, Tryz.results14, go_sem, y0, y1, y2, y3, y4]) rfl (HEnd.out WE hkE)
          · obtain rfl : code = 0 := Decidable.not_not.1 hz
            have HF := Lib.hid (show execS a F = ⟨0, ⟨s.told.toArray⟩, s.written, s.looks, cmd⟩ by rw [HX.out, if_pos rfl])
            have HO2 := Lib.hid (show ResOk ⟨0, ⟨s.told.toArray⟩, s.written, s.looks, cmd⟩ from HF.out ▸ HX.out ▸ HO.out)
            have hNw : s.written.length ≤ 1000 := (checkFiles_err HO2.out.files).1
            have hWs : ∀ x ∈ s.written, x.path.size ≤ maxLen := fun x hx => by have := (files_sizes HO2.out.files x hx).1; unfold maxLen; omega
            obtain ⟨f, hf1, hf2⟩ := id hwrR
            clear HX HO hz
            go_wp2_with fail
            refine (keys_mapstringsmithyardapiFile (w1.heap.size + 1) wr).mono ?_
            rintro e w8' ⟨rfl, rfl⟩
            go_wp2_with fail
            refine (sorted_mapFile (w1.heap.size + 1) s.written.length f wr hf1 (by omega)).mono ?_
            rintro e w7 ⟨ks2, A9, c9, rfl, hks, hc91, hc92, hs9, hb7⟩
            have hks3 : ks2 = s.written.map FileV.path := files_keys hks hf2 HWr.out hWs
            have hkl2 : ks2.length = s.written.length := by rw [hks3, List.length_map]
            have hz7 := hb7.size
            have hA7 := hA.call hb7
            have hres7 := hresR.call hb7
            have hm7 := hf1.call hb7
            have hb07 := fr_call hb0R hb7
            have j7 := (hb7.cell (p := ⟨w1.heap.size + 1 + 1 + 1, 7, none⟩) hgr).trans v7
            have hgr7 : w1.heap.size + 1 + 1 + 1 < w7.heap.size := by omega
            have hm7' : ks2.length ≤ 9223372036854775807 := by omega
            have hrl7 := hA7.lt
            have hs7 := hs2.keep fun k hk => hb7.block k hk.2
            have HKs2 := Lib.hid hks3
            have HN2 := Lib.hid hkl2
            have HF2 := Lib.hid (fun key x (hk : keyF s.written key = some x) => by have := hf2 key; rw [hk] at this; exact this)
            obtain ⟨KS, hKS⟩ : ∃ KS : Nat → Prop, KS = fun j => ((w1.heap.size ≤ j ∧ OffW (w1.heap.size + 1 + 1 + 1) w1.heap.size (w1.heap.size + 1) (w1.heap.size + 1 + 1) w4 j) ∧ j ≠ r10) ∧ j ≠ w.heap.size + 1 := ⟨_, rfl⟩
            rw [← hKS] at HF2
            have hKb : ∀ k, KS k → k < wr.heap.size ∧ k ≠ r10 ∧ (w1.heap.size ≤ k ∧ k ≠ w.heap.size + 1) := fun k hk => by rw [hKS] at hk; exact ⟨by have := hk.1.1.2.1; omega, hk.1.2, hk.1.1.1, hk.2⟩
            have HKb := Lib.hid hKb
            have hrow7 : RowK w7 w7.heap.size 50 KS (.slice none 0 0) ([] : List FileV) := RowK.nil.more (fun _ h => h.elim) fun k hk => by have := (hKb k hk).1; omega
            have HBk := Lib.hid (fun k (hk : KS k) => hb7.block k (hKb k hk).1)
            clear hks hks3 hf2 hwrR hb0R hA hresR hf1 v0 v1 v2 v3 v4 v7 hs2 hKS hkl2 hb7 hKb
            obtain ⟨i0', hi0', hz0', hz1', hz2'⟩ := info_parts file_info4
            go_wp2
            go_loopw [87] (fun i wr => ∃ (k : Nat) (vF : Value), k ≤ ks2.length ∧ i = .int .i64 k ∧ Arr wr r10 30 [.int .i64 0, .string ⟨s.told.toArray⟩, vF, .slice A2 s.looks.length c2, .int .i64 cmd] ∧ RowK wr w7.heap.size 50 KS vF (s.written.take k) ∧ Kp (fun j => j = r10) w7 wr) (fun i _ => ks2.length - (intOf i).toNat)
            case atStart => exact ⟨0, _, Nat.zero_le _, rfl, hA7, hrow7, Kp.refl _ _⟩
            case round =>
              clear hA7 hrow7
              obtain ⟨k, vF, hk, rfl, hA, hrow, hkp⟩ := hrel
              have hzr := hkp.size
              by_cases hlt : k < ks2.length
              · obtain ⟨b, o, x, rfl, hb, hx, hxs, e0⟩ := (hs9.keep fun j hj => hkp.block j hj.2 (fun e : j = r10 => by have := hj.1; omega)).str hlt
                obtain ⟨y, hy, rfl⟩ := map_at (f := FileV.path) (l := s.written) (by rw [← HKs2.out]; exact hx)
                have hkI : (k : Int) < (ks2.length : Int) := by omega
                obtain ⟨v, hfv, hfv2⟩ := HF2.out _ _ (keyF_at HWr.out hy)
                obtain ⟨hp0, Ay, ny, cy, rfl, hp1, hp2, hp3⟩ := hfv2
                have hmr := MapIs.keep hm7 (w' := wr.drew) (hkp.block _ (MapIs.lt hm7) (show ¬ (w1.heap.size + 1 = r10) by omega))
                have hlk : (Instr.lookup 99 (.map (some (w1.heap.size + 1))) (.string y.path) false).run Tryz.prog wr.drew = .ok (.agg #[.string y.path, .bool y.run, .slice Ay ny cy]) wr.drew := by
                  rw [hmr.look Tryz.underlying9 map_file_under (file_zero wr.drew) hp0, hfv]; rfl
                have hlen : (s.written.take k).length = k := by rw [List.length_take]; have := HN2.out; omega
                obtain ⟨_, rows, hrows, hown, hrep⟩ := id hrow
                have HT := Lib.hid (show s.written.take (k + 1) = s.written.take k ++ [y] by rw [List.take_add_one, hy]; rfl)
                have hrepy : Rep.rep wr KS y [.string y.path, .bool y.run, .slice Ay ny cy] := ⟨hp0, Ay, ny, cy, rfl, hp1, hp2, hp3.keep fun j hj => (hkp.block j (by have := (HKb.out j hj).1; omega) (HKb.out j hj).2.1).trans (HBk.out j hj)⟩
                have HJ := Lib.hid (fun o w9 v' hg hown' => row_more (o := o) (w9 := w9) (v' := v') (i := 2) (r := [.string y.path, .bool y.run, .slice Ay ny cy]) (y := y) hA hrow (fun k hk => ⟨by have := (HKb.out k hk).1; omega, (HKb.out k hk).2.1⟩) hrows hrep hrepy hkp hrl7 hg hown')
                rw [hlen] at hown HJ
                have H9 := Lib.hid (fun o => show ((wr.alloc o).drew).ownsRow w7.heap.size 50 3 vF k rows.flatten from hown.alloc o)
                have H63 := Lib.hid (show k + 1 ≤ maxLen by have := HN2.out; unfold maxLen; omega)
                have H48 := Lib.hid (show (k + 1) * 48 ≤ 140737488355328 by have := HN2.out; omega)
                have HB9 := Lib.hid (fun o => show w7.heap.size ≤ (wr.alloc o).drew.heap.size from by have e : (wr.alloc o).drew.heap.size = wr.heap.size + 1 := World.size_alloc ..; omega)
                have v3 := hA.cell (i := 2) rfl
                have v8 := (World.cell?_of_block (a := ⟨w1.heap.size + 1 + 1 + 1, 7, none⟩) (hkp.block _ hgr7 hne)).trans j7
                have hgr : w1.heap.size + 1 + 1 + 1 < wr.heap.size := by omega
                have hrr : r10 < wr.heap.size := by omega
                clear hx hy hmr hrow hrows hown hrep hA hb hlen hrepy hp3 hfv
                go_wp2
                go_region_law (first
                  | (refine step_append_lies _ rfl _ _ 27 rfl w7.heap.size 50 i0' _ 3 48 Tryz.underlying27 hi0' hz0' hz1' hz2' rfl (by decide) _ k _ rfl (H9.out _) ⟨wr.heap.size, 0, none⟩ 1 1 [.string y.path, .bool y.run, .slice Ay ny cy] rfl rfl (new_cells_d wr #[_, _, _] _) (three_ones rfl rfl rfl) (by decide) H63.out H48.out (HB9.out _) _ rfl ?_
                     intro g' cap w9 hown' hgrow hat hlt'
                     obtain ⟨hA9, hrow9, hA10, hk9⟩ := HJ.out _ _ _ hgrow hown'
                     have u3 := hA9.cell (i := 2) rfl
                     have uf := hA9.frozen 2
                     have ul := hA9.lt))
                all_goals
                  go_wp2
                  go_roundw
                  case rel => exact ⟨k + 1, _, by omega, by go_num, hA10, by rw [HT.out]; exact hrow9, hk9⟩
                  case measure => simp [intOf]; omega
              · obtain rfl : k = ks2.length := by omega
                rw [List.take_of_length_le (by have := HN2.out; omega)] at hrow
                have hresR := hres7.keep (hkp.block _ hres7.lt hne2)
                have hb0R := hb07.trans (hkp.below (B := w.heap.size) (fun k hk (e : k = r10) => by have := HLow.out; omega) (by have := hb07.size; omega))
                have hrr : r10 < wr.heap.size := by omega
                obtain ⟨A1, c1, rfl, h11, h12, hs1⟩ := RowK.slNew (w := w7) (S := fun j => w1.heap.size ≤ j ∧ j ≠ w.heap.size + 1) hrow fun k hk => .inl (HKb.out k hk).2.2
                have v0 := hA.cell (i := 0) rfl
                have v1 := hA.cell (i := 1) rfl
                have v2 := hA.cell (i := 2) rfl
                have v3 := hA.cell (i := 3) rfl
                have v4 := hA.cell (i := 4) rfl
                have HEnd := Lib.hid (fun WE (hk : Kp (fun j => j = w.heap.size + 1) wr WE) => exec_end (c1 := c1) (c2 := c2) HF.out HO2.out hb0R hk (Nat.le_succ _) (hs1.more fun k hk => ⟨by have := HLow.out; rcases hk.1 with h | h <;> omega, by have := HLow.out; rcases hk.1 with h | h <;> omega, hk.2⟩) ((hs7.keep fun k hh => hkp.block k (by have := hh.2; omega) (fun e : k = r10 => by have := hh.1; omega)).more fun k hk => ⟨by have := hk.1; omega, by have := hk.1; omega, by have := hk.2; omega⟩))
                clear hs9 hkp hres7 hrow hs1
                have e0 := hresR.cell (i := 0) rfl
                have e1 := hresR.cell (i := 1) rfl
                have e2 := hresR.cell (i := 2) rfl
                have e3 := hresR.cell (i := 3) rfl
                have e4 := hresR.cell (i := 4) rfl
                have g0 := hresR.frozen 0
                have g1 := hresR.frozen 1
                have g2 := hresR.frozen 2
                have g3 := hresR.frozen 3
                have g4 := hresR.frozen 4
                have hrl4 := hresR.lt
                have hne4 : ¬ (r10 = w.heap.size + 1) := by omega
                go_wp2
                generalize hWE : World.setCell (World.setCell (World.setCell (World.setCell (World.setCell wr _ _) _ _) _ _) _ _) _ _ = WE
                have hE5 : Arr WE (w.heap.size + 1) 30 [.int .i64 0, .string ⟨s.told.toArray⟩, (.slice A1 s.written.length c1), .slice A2 s.looks.length c2, .int .i64 cmd] := by
                  rw [← hWE]; exact ((((hresR.set 0 _).set 1 _).set 2 _).set 3 _).set 4 _
                have hkE : Kp (fun j => j = w.heap.size + 1) wr WE := by
                  rw [← hWE]
                  exact Kp.set (p := ⟨w.heap.size + 1, 4, none⟩) (Kp.set (p := ⟨w.heap.size + 1, 3, none⟩) (Kp.set (p := ⟨w.heap.size + 1, 2, none⟩) (Kp.set (p := ⟨w.heap.size + 1, 1, none⟩) (Kp.set (p := ⟨w.heap.size + 1, 0, none⟩) (Kp.refl (fun j => j = w.heap.size + 1) wr) rfl _) rfl _) rfl _) rfl _) rfl _
                clear hWE e0 e1 e2 e3 e4 g0 g1 g2 g3 g4
                have y0 := hE5.cell (i := 0) rfl
                have y1 := hE5.cell (i := 1) rfl
                have y2 := hE5.cell (i := 2) rfl
                have y3 := hE5.cell (i := 3) rfl
                have y4 := hE5.cell (i := 4) rfl
                exact bodyPost_ret (v := .tuple #[.agg #[.int .i64 0, .string ⟨s.told.toArray⟩, (.slice A1 s.written.length c1), .slice A2 s.looks.length c2, .int .i64 cmd], .int .i64 0]) (by simp [results, Tryz.results14, go_sem, y0, y1, y2, y3, y4]) rfl (HEnd.out WE hkE)
theorem exec_ok (a : ActionV) (A : Option Addr) (n n' : Nat) (B : Option Addr) (m m' : Nat) (C : Option Addr) (p p' : Nat) (D : Option Addr) (q q' : Nat) (L : Option Addr) (nl cl : Nat) (F : List FileV) (w : World) (hE : Env2 w) (ha : ActIs w a A n B m C p D q) (hsl : Sl w (Lt w.heap.size) L nl F) (hok : bothErr a F = 0) :
    Calls Tryz.prog 14 #[actVal a A n n' B m m' C p p' D q q', .slice L nl cl] w (ExecPost a F w) :=
  (exec_new a A n n' B m m' C p p' D q q' L nl cl F w hE ha hsl hok).mono fun _ _ h => h.post
end Go.Proofs.Sm

namespace Go.Proofs.Sm
open Go.RowKit Go.Maps

def execV (a : ActionV) (F : List FileV) : ResultV := if bothErr a F = 0 then execS a F else noResult
theorem execV_ok {a : ActionV} {F : List FileV} (h : bothErr a F = 0) : execV a F = execS a F := by rw [execV, if_pos h]
theorem execV_bad {a : ActionV} {F : List FileV} (h : ¬ bothErr a F = 0) : execV a F = noResult := by rw [execV, if_neg h]
def ExecAny (a : ActionV) (F : List FileV) (w : World) (e : Ending) (w' : World) : Prop :=
  ∃ A1 n1 c1 A2 n2 c2, e = .returned (.tuple #[resVal (execV a F) A1 n1 c1 A2 n2 c2, .int .i64 (bothErr a F)]) ∧ ResIs w' (execV a F) A1 n1 A2 n2 ∧ Below w.heap.size w w'
theorem act_Execute (a : ActionV) (A : Option Addr) (n n' : Nat) (B : Option Addr) (m m' : Nat) (C : Option Addr) (p p' : Nat) (D : Option Addr) (q q' : Nat) (L : Option Addr) (nl cl : Nat) (F : List FileV) (w : World) (hE : Env2 w) (ha : ActIs w a A n B m C p D q) (hsl : Sl w (Lt w.heap.size) L nl F) : Calls Tryz.prog 14 #[actVal a A n n' B m m' C p p' D q q', .slice L nl cl] w (ExecAny a F w) := by
  by_cases h : bothErr a F = 0
  · refine (exec_ok a A n n' B m m' C p p' D q q' L nl cl F w hE ha hsl h).mono ?_
    rintro e w' ⟨A1, n1, c1, A2, n2, c2, rfl, h1, h2⟩
    exact ⟨A1, n1, c1, A2, n2, c2, by rw [execV_ok h, h], by rw [execV_ok h]; exact h1, h2⟩
  · refine (exec_bad a A n n' B m m' C p p' D q q' L nl cl F w hE ha hsl h).mono ?_
    rintro e w' ⟨rfl, h2⟩
    exact ⟨none, 0, 0, none, 0, 0, by rw [execV_bad h], by rw [execV_bad h]; exact ⟨by unfold InInt; decide, by decide, Sl.nil, Sl.nil, by unfold InInt; decide⟩, h2⟩
end Go.Proofs.Sm

namespace Go.Proofs.Sm
open Go.RowKit

def aLook : Look := ⟨⟨#[97]⟩, ⟨#[]⟩, false⟩
def aFile : FileV := ⟨⟨#[97]⟩, false, []⟩
def bLook : Look := ⟨⟨#[97]⟩, ⟨#[99, 98, 102, 50, 57, 99, 101, 52, 56, 52, 50, 50, 50, 51, 50, 53]⟩, false⟩
theorem a_err : looksOfErr [aLook] [aFile] = 0 := by decide +kernel
theorem a_looks : looksOfS [aLook] [aFile] = [bLook] := sameLooksS_iff.1 (by decide +kernel)
theorem at_box3 {w : World} {g : Nat} {a b c : Value} (h : Box3 w g a b c) : At w g 0 [a, b, c] := by
  intro j v hv
  match j, hv with
  | 0, hv => cases hv; exact h.1.1
  | 1, hv => cases hv; exact h.1.2.1
  | 2, hv => cases hv; exact h.1.2.2
theorem one_look {w : World} {g : Nat} {x : Look} (h : Box3 w g (.string x.path) (.string x.digest) (.bool x.run)) (h1 : x.path.size ≤ maxLen) (h2 : x.digest.size ≤ maxLen) : Sl w (Lt w.heap.size) (some ⟨g, 0, none⟩) 1 [x] :=
  ⟨rfl, by unfold maxLen; decide, fun _ => ⟨g, 0, rfl, h.2.2, fun i y hy => by
    cases i with
    | zero => cases hy; exact ⟨_, ⟨rfl, h1, h2⟩, at_box3 h⟩
    | succ i => simp at hy⟩⟩
theorem one_file {w : World} {g : Nat} {x : FileV} (h : Box3 w g (.string x.path) (.bool x.run) (.slice none 0 0)) (h1 : x.path.size ≤ maxLen) (hb : x.bytes = []) : Sl w (Lt w.heap.size) (some ⟨g, 0, none⟩) 1 [x] :=
  ⟨rfl, by unfold maxLen; decide, fun _ => ⟨g, 0, rfl, h.2.2, fun i y hy => by
    cases i with
    | zero => cases hy; exact ⟨_, ⟨h1, none, 0, 0, rfl, Nat.le_refl _, Nat.zero_le _, by rw [hb]; exact Sl.nil⟩, at_box3 h⟩
    | succ i => simp at hy⟩⟩

set_option maxRecDepth 100000 in
theorem law5_awake (w : World) (hE : Env w) : Calls Tryz.prog 15 #[] w fun e w' => e = .returned (.bool true) ∧ Below w.heap.size w w' := by
  go_enter Tryz.func15, Tryz.ntmps15
  go_wp2_with fail
  have hb1 := box3_new w (.string ⟨#[97]⟩) (.string ⟨#[]⟩) (.bool false) 38
  have hb2 := hb1.call (fr_alloc (fr_refl _) (.cells #[.string ⟨#[97]⟩, .bool false, .slice none 0 0] 50))
  have hb3 := box3_new (w.alloc (.cells #[.string ⟨#[97]⟩, .string ⟨#[]⟩, .bool false] 38)) (.string ⟨#[97]⟩) (.bool false) (.slice none 0 0) 50
  have c := act_LooksOf (some ⟨w.heap.size, 0, none⟩) (some ⟨(w.alloc (.cells #[.string ⟨#[97]⟩, .string ⟨#[]⟩, .bool false] 38)).heap.size, 0, none⟩) 1 1 1 1 [aLook] [aFile] _ ((hE.alloc _).alloc _) (one_look (x := aLook) hb2 (by unfold maxLen; decide) (by unfold maxLen; decide)) (one_file (x := aFile) hb3 (by unfold maxLen; decide) rfl)
  rw [a_err, a_looks] at c
  have hs : (w.alloc (.cells #[.string ⟨#[97]⟩, .string ⟨#[]⟩, .bool false] 38)).heap.size = w.heap.size + 1 := by simp
  rw [hs] at c
  refine c.mono ?_
  rintro e w1 ⟨A', n', c', rfl, q1, q2, q3, hbel⟩
  obtain rfl : n' = 1 := q3.1.symm
  obtain ⟨b, o, x, rfl, hb, hx, hs1, hs2, c0, c1, c2⟩ := q3.look (k := 0) (by omega)
  obtain rfl : bLook = x := by simpa using hx
  have d1 : w1.cell? ⟨b, o + 1, none⟩ = some (.string ⟨#[99, 98, 102, 50, 57, 99, 101, 52, 56, 52, 50, 50, 50, 51, 50, 53]⟩) := by
    have h : some (Value.string bLook.digest) = some (.string ⟨#[99, 98, 102, 50, 57, 99, 101, 52, 56, 52, 50, 50, 50, 51, 50, 53]⟩) := rfl
    rw [← h]
    simpa using c1
  clear c0 c1 c2 hx
  go_wp2
  go_ret
  exact ⟨rfl, fr_call (fr_alloc (fr_alloc (fr_refl _) _) _) hbel⟩

end Go.Proofs.Sm
