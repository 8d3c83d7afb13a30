/- Walks: the reference writes a result. -/
import Derived.Test.YtfdobbclpacijaaDoorW24
namespace Go.Proofs.Sm
open Go.RowKit

theorem below_step {a w w1 : World} (h : Below a.heap.size a w) (hb : Below w.heap.size w w1) : Below a.heap.size a w1 := fr_call h hb

set_option maxHeartbeats 4000000 in
set_option maxRecDepth 100000 in
theorem ref5_ResultTextOf (r : ResultV) (A : Option Addr) (n c : Nat) (B : Option Addr) (m d : Nat) (w : World) (hE : Env2 w) (hr : ResIs w r A n B m) (ok : ResOk r) :
    Calls Tryd.prog 33 #[resVal r A n c B m d] w fun e w' => e = .returned (.string ⟨(resultTextL r).toArray⟩) ∧ Below w.heap.size w w' := by
  unfold resVal
  have hm : n ≤ 9223372036854775807 := hr.files.2.1
  have hmd : m ≤ 9223372036854775807 := hr.looks.2.1
  go_enter Tryd.func33, Tryd.ntmps33
  go_wp2
  have hX := heap_alloc_new w (.cells #[.int .i64 r.code, .string r.text, .slice A n c, .slice B m d, .int .i64 r.command] 34)
  have hEn := hE.alloc (.cells #[.int .i64 r.code, .string r.text, .slice A n c, .slice B m d, .int .i64 r.command] 34)
  have hrn := hr.then_ (fr_alloc (fr_refl w) (.cells #[.int .i64 r.code, .string r.text, .slice A n c, .slice B m d, .int .i64 r.command] 34))
  have hbel := fr_alloc (fr_refl w) (.cells #[.int .i64 r.code, .string r.text, .slice A n c, .slice B m d, .int .i64 r.command] 34)
  have hz : w.heap.size < (w.alloc (.cells #[.int .i64 r.code, .string r.text, .slice A n c, .slice B m d, .int .i64 r.command] 34)).heap.size := by simp
  generalize w.alloc (.cells #[.int .i64 r.code, .string r.text, .slice A n c, .slice B m d, .int .i64 r.command] 34) = W at *
  have HX := Lib.hid hX; clear hX
  have HK := Lib.hid (show ∀ w', Below W.heap.size W w' → (Below W.heap.size W w' ∧ w'.cell? ⟨w.heap.size, 0, none⟩ = some (.int .i64 r.code) ∧ w'.cell? ⟨w.heap.size, 1, none⟩ = some (.string r.text) ∧ w'.cell? ⟨w.heap.size, 4, none⟩ = some (.int .i64 r.command)) from fun w' h => by
    have h1 : w'.heap[w.heap.size]? = _ := (h.block _ hz).trans HX.out
    refine ⟨h, ?_, ?_, ?_⟩ <;> (rw [World.cell?, h1]; rfl))
  have HEn := Lib.hid (show ∀ w', Below W.heap.size W w' → Env2 w' from fun w' h => hEn.then_ h)
  have hcd : InInt r.code := hr.code
  have hcm : InInt r.command := hr.command
  have hts : InInt (r.text.size : Int) := by unfold InInt; have := ok.text; omega
  obtain ⟨s1, k1, E1, C1⟩ := itoa_op r.code hcd
  obtain ⟨s2, k2, E2, C2⟩ := itoa_op r.command hcm
  obtain ⟨s3, k3, E3, C3⟩ := itoa_op (r.text.size : Int) hts
  have k4 := ok.text
  have q1 : (⟨#[99, 111, 100, 101, 32]⟩ : ByteArray).size = 5 := rfl
  have q2 : (⟨#[32]⟩ : ByteArray).size = 1 := rfl
  have q3 : (⟨#[10, 116, 101, 120, 116, 32]⟩ : ByteArray).size = 6 := rfl
  have q4 : (⟨#[10]⟩ : ByteArray).size = 1 := rfl
  obtain ⟨p1, z1, P1, a1⟩ := cat_op ⟨#[99, 111, 100, 101, 32]⟩ s1 (by omega)
  obtain ⟨p2, z2, P2, a2⟩ := cat_op p1 ⟨#[32]⟩ (by omega)
  obtain ⟨p3, z3, P3, a3⟩ := cat_op p2 s2 (by omega)
  obtain ⟨p4, z4, P4, a4⟩ := cat_op p3 ⟨#[10, 116, 101, 120, 116, 32]⟩ (by omega)
  obtain ⟨p5, z5, P5, a5⟩ := cat_op p4 s3 (by omega)
  obtain ⟨p6, z6, P6, a6⟩ := cat_op p5 ⟨#[10]⟩ (by omega)
  obtain ⟨p7, z7, P7, a7⟩ := cat_op p6 r.text (by omega)
  clear q1 q2 q3 q4 z1 z2 z3 z4 z5 z6 z7
  go_region_held3 (fun w' => Below W.heap.size W w' ∧ w'.cell? ⟨w.heap.size, 0, none⟩ = some (.int .i64 r.code) ∧ w'.cell? ⟨w.heap.size, 1, none⟩ = some (.string r.text) ∧ w'.cell? ⟨w.heap.size, 4, none⟩ = some (.int .i64 r.command))
    (first | assumption | exact HK.out _ (Below.refl _ _).drew | exact HK.out _ (below_step (And.left (by assumption)) hbc))
    (first
      | (go_at_call_of 26 (Value.int .i64 r.code); refine (C1.out _ (HEn.out _ (And.left (by assumption)))).mono ?_; rintro e wc ⟨rfl, hbc⟩)
      | (go_at_call_of 26 (Value.int .i64 r.command); refine (C2.out _ (HEn.out _ (And.left (by assumption)))).mono ?_; rintro e wc ⟨rfl, hbc⟩)
      | (go_at_call_of 26 (Value.int .i64 (r.text.size : Int)); refine (C3.out _ (HEn.out _ (And.left (by assumption)))).mono ?_; rintro e wc ⟨rfl, hbc⟩))
  have hbc1 : Below W.heap.size W wc := And.left (by assumption)
  have HT := Lib.hid (show p7.data.toList = headTextS r by rw [P7.out, P6.out, P5.out, P4.out, P3.out, P2.out, P1.out, E1.out, E2.out, E3.out]; simp [headTextS])
  clear a1 a2 a3 a4 a5 a6 a7 hcd hcm hts C1 C2 C3 E1 E2 E3 P1 P2 P3 P4 P5 P6 P7 k1 k2 k3 k4
  go_wp2
  go_loopw [3, 4, 5] (fun s i _ wr => ∃ (k : Nat) (t : ByteArray), k ≤ n ∧ i = .int .i64 k ∧ s = .string t ∧ t.data.toList = headTextS r ++ (r.files.take k).flatMap fileTextS ∧ Below W.heap.size W wr) (fun _ i _ _ => n - (intOf i).toNat)
  case atStart => exact ⟨0, p7, Nat.zero_le _, rfl, rfl, by rw [HT.out]; simp, hbc1⟩
  case round =>
    clear hbc1 HK
    obtain ⟨k, t, hk, rfl, rfl, ht, hbr⟩ := hrel
    have Ht := Lib.hid ht; clear ht
    have hX2 : wr.cell? ⟨w.heap.size, 2, none⟩ = some (.slice A n c) := by rw [World.cell?, (hbr.block _ hz).trans HX.out]; rfl
    have hfll := files_length ok k
    have hhl := head_length ok
    have hts : t.size ≤ 100500000 := by
      have h1 : t.data.toList.length = t.size := by simp
      rw [← h1, Ht.out, List.length_append]; omega
    by_cases hlt : k < n
    · obtain ⟨b, o, x, A', n', c', rfl, hb, hx, hs1, hnc, hcm, hsl', c0, c1, c2⟩ := (hrn.files.keep (keep_lt hbr)).file hlt
      have hbW : b < W.heap.size := hb
      have hWr : W.heap.size ≤ wr.heap.size := hbr.size
      have hbw : b < wr.heap.size := by omega
      have hsz := files_sizes ok.files x (List.mem_of_getElem? hx)
      have hn' := hsl'.1
      have HX2 := Lib.hid hx; clear hx
      have hin : InInt (n' : Int) := by unfold InInt; omega
      go_wp2
      have hbv := fr_alloc hbr (.cells #[.string x.path, .bool x.run, .slice A' n' c'] 47)
      have hV : (wr.alloc (.cells #[.string x.path, .bool x.run, .slice A' n' c'] 47)).heap[wr.heap.size]? = some (.cells #[.string x.path, .bool x.run, .slice A' n' c'] 47 (0, 0)) := heap_alloc_new wr _
      have hslv := sl_call hsl' (show Below W.heap.size wr (wr.alloc (.cells #[.string x.path, .bool x.run, .slice A' n' c'] 47)) from (Below.refl _ _).alloc hWr _) hWr
      have hlt' : wr.heap.size < (wr.alloc (.cells #[.string x.path, .bool x.run, .slice A' n' c'] 47)).heap.size := by simp
      generalize wr.heap.size = h at *
      generalize wr.alloc (.cells #[.string x.path, .bool x.run, .slice A' n' c'] 47) = V at *
      obtain ⟨bs, kb, Eb, HB⟩ : ∃ bs : ByteArray, bs.size ≤ 100000 ∧ Hid (bs.data.toList = x.bytes) ∧ Hid (∀ w', Below V.heap.size V w' → (convert 45 9 (.slice A' n' c')).run Tryd.prog w' = .ok (.string bs) w') :=
        ⟨⟨x.bytes.toArray⟩, by simpa [ByteArray.size] using hsz.2, Lib.hid (by simp), Lib.hid fun w' hw => run_bytes_string (P := Tryd.prog) (sl_call hslv hw (Nat.le_refl _)) 45 9 5 c' Tryd.underlying45 Tryd.underlying5 Tryd.underlying9⟩
      have HK := Lib.hid (show ∀ w', Below V.heap.size V w' → (Below V.heap.size V w' ∧ w'.cell? ⟨h, 0, none⟩ = some (.string x.path) ∧ w'.cell? ⟨h, 1, none⟩ = some (.bool x.run) ∧ w'.cell? ⟨h, 2, none⟩ = some (.slice A' n' c') ∧ (convert 45 9 (.slice A' n' c')).run Tryd.prog w' = .ok (.string bs) w') from fun w' hw => by
        have h1 := (hw.block h hlt').trans hV
        refine ⟨hw, ?_, ?_, ?_, HB.out w' hw⟩ <;> (rw [World.cell?, h1]; rfl))
      have HEv := Lib.hid (show ∀ w', Below V.heap.size V w' → Env2 w' from fun w' hw => HEn.out _ (fr_call hbv hw))
      obtain ⟨s1, k1, E1, C1⟩ := itoa_op (n' : Int) hin
      obtain ⟨s2, k2, E2, C2⟩ := sign_op x.run
      have q1 : (⟨#[102, 105, 108, 101, 32]⟩ : ByteArray).size = 5 := rfl
      have q2 : (⟨#[32]⟩ : ByteArray).size = 1 := rfl
      have q4 : (⟨#[10]⟩ : ByteArray).size = 1 := rfl
      obtain ⟨p1, z1, P1, a1⟩ := cat_op ⟨#[102, 105, 108, 101, 32]⟩ x.path (by omega)
      obtain ⟨p2, z2, P2, a2⟩ := cat_op p1 ⟨#[32]⟩ (by omega)
      obtain ⟨p3, z3, P3, a3⟩ := cat_op p2 s2 (by omega)
      obtain ⟨p4, z4, P4, a4⟩ := cat_op p3 ⟨#[32]⟩ (by omega)
      obtain ⟨p5, z5, P5, a5⟩ := cat_op p4 s1 (by omega)
      obtain ⟨p6, z6, P6, a6⟩ := cat_op p5 ⟨#[10]⟩ (by omega)
      obtain ⟨p7, z7, P7, a7⟩ := cat_op p6 bs (by omega)
      obtain ⟨p8, z8, P8, a8⟩ := cat_op p7 ⟨#[10]⟩ (by omega)
      obtain ⟨p9, z9, P9, a9⟩ := cat_op t p8 (by omega)
      clear q1 q2 q4 z1 z2 z3 z4 z5 z6 z7 z8 z9 hX2
      go_region_held3 (fun w' => Below V.heap.size V w' ∧ w'.cell? ⟨h, 0, none⟩ = some (.string x.path) ∧ w'.cell? ⟨h, 1, none⟩ = some (.bool x.run) ∧ w'.cell? ⟨h, 2, none⟩ = some (.slice A' n' c') ∧ (convert 45 9 (.slice A' n' c')).run Tryd.prog w' = .ok (.string bs) w')
        (first | assumption | exact HK.out _ (Below.refl _ _).drew | exact HK.out _ (below_step (And.left (by assumption)) hbc))
        (first
          | (go_at_call 53; refine (C2.out _).mono ?_; rintro e wc ⟨rfl, rfl⟩)
          | (go_at_call 26; refine (C1.out _ (HEv.out _ (And.left (by assumption)))).mono ?_; rintro e wc ⟨rfl, hbc⟩))
      have hwv : Below V.heap.size V wc := And.left (by assumption)
      have HP := Lib.hid (show p9.data.toList = headTextS r ++ (r.files.take (k + 1)).flatMap fileTextS by
        rw [P9.out, P8.out, P7.out, P6.out, P5.out, P4.out, P3.out, P2.out, P1.out, E1.out, E2.out, Eb.out, Ht.out, flatMap_succ HX2.out, ← hn']; simp [fileTextS, fileHeadS])
      clear a1 a2 a3 a4 a5 a6 a7 a8 a9 P1 P2 P3 P4 P5 P6 P7 P8 P9 E1 E2 Eb C1 C2 HB HK HEv hin hn'
      go_wp2
      go_round
      case rel => exact ⟨k + 1, p9, by omega, by go_num, rfl, HP.out, fr_call hbv hwv⟩
      case measure => simp [intOf]; omega
    · have HF := Lib.hid (show r.files.take k = r.files from List.take_of_length_le (by rw [hrn.files.1]; omega))
      have hX3 : wr.cell? ⟨w.heap.size, 3, none⟩ = some (.slice B m d) := by rw [World.cell?, (hbr.block _ hz).trans HX.out]; rfl
      have HHL := Lib.hid (show headTextS r ++ r.files.flatMap fileTextS ++ r.looks.flatMap lookLineS = resultTextL r from rfl)
      have Ht2 := Lib.hid (show t.data.toList = headTextS r ++ r.files.flatMap fileTextS by rw [Ht.out, HF.out])
      generalize headTextS r ++ r.files.flatMap fileTextS = L at *
      have hln : L.length ≤ 100500000 := by
        have h1 : t.data.toList.length = t.size := by simp
        rw [← Ht2.out, h1]; exact hts
      clear hfll hhl
      go_wp2
      clear hX2
      go_loopw [3, 6] (fun s i wr => ∃ (q : Nat) (u : ByteArray), q ≤ m ∧ i = .int .i64 q ∧ s = .string u ∧ u.data.toList = L ++ (r.looks.take q).flatMap lookLineS ∧ Below W.heap.size W wr) (fun _ i _ => m - (intOf i).toNat)
      case atStart => exact ⟨0, t, Nat.zero_le _, rfl, rfl, by rw [Ht2.out]; simp, hbr⟩
      case round =>
        clear hbr hX3
        obtain ⟨q, u, hq, rfl, rfl, hu, hbr⟩ := hrel
        have Hu := Lib.hid hu; clear hu
        have hX3 : wr.cell? ⟨w.heap.size, 3, none⟩ = some (.slice B m d) := by rw [World.cell?, (hbr.block _ hz).trans HX.out]; rfl
        have hll := looks_length ok q
        have hus : u.size ≤ 102000000 := by
          have h1 : u.data.toList.length = u.size := by simp
          rw [← h1, Hu.out, List.length_append]; omega
        by_cases hlt2 : q < m
        · obtain ⟨b, o, x, rfl, hb, hx, hs1, hs2, c0, c1, c2⟩ := (hrn.looks.keep (keep_lt hbr)).look hlt2
          have hsz := looks_sizes ok.looks x (List.mem_of_getElem? hx)
          have hl1 := lookLine_length x hsz.1 hsz.2
          have hl2 : (⟨(lookLineS x).toArray⟩ : ByteArray).size = (lookLineS x).length := by simp [ByteArray.size]
          obtain ⟨p, z, P, a⟩ := cat_op u ⟨(lookLineS x).toArray⟩ (by omega)
          have HP := Lib.hid (show p.data.toList = L ++ (r.looks.take (q + 1)).flatMap lookLineS by
            rw [P.out, Hu.out, flatMap_succ hx]; simp)
          clear hx P hl1 hl2 z
          go_wp2_with fail
          refine (ref5_lookLine x _ (by omega) (by omega)).mono ?_
          rintro e w3 ⟨rfl, hb3⟩
          go_wp2
          go_round
          case rel => exact ⟨q + 1, p, by omega, by go_num, rfl, HP.out, fr_call hbr hb3⟩
          case measure => simp [intOf]; omega
        · have HF2 := Lib.hid (show u.data.toList = resultTextL r by rw [Hu.out, List.take_of_length_le (by rw [hrn.looks.1]; omega), HHL.out])
          go_wp2
          go_ret
          exact ⟨ret_str HF2.out, hbel.trans (hbr.mono (Nat.le_of_lt hz))⟩

theorem ref5_ResultText (r : ResultV) (A : Option Addr) (n c : Nat) (B : Option Addr) (m d : Nat) (w : World) (hE : Env2 w) (hr : ResIs w r A n B m) :
    Calls Tryd.prog 14 #[resVal r A n c B m d] w fun e w' => e = .returned (.tuple #[.string (resultTextS r), .int .i64 (resultTextErr r)]) ∧ Below w.heap.size w w' := by
  have hv : resVal r A n c B m d = .agg #[.int .i64 r.code, .string r.text, .slice A n c, .slice B m d, .int .i64 r.command] := rfl
  have C1 := Lib.hid (fun w' (hb : Below w.heap.size w w') => ref5_CheckResult r A n c B m d w' (hE.then_ hb).toEnv (hr.then_ hb))
  have C2 := Lib.hid (fun w' (hb : Below w.heap.size w w') ok => ref5_ResultTextOf r A n c B m d w' (hE.then_ hb) (hr.then_ hb) ok)
  rw [hv] at C1 C2 ⊢
  clear hv
  go_enter Tryd.func14, Tryd.ntmps14
  go_wp2_with fail
  refine (C1.out _ (fr_alloc (fr_refl w) _)).mono ?_
  rintro e w1 ⟨rfl, hb1⟩
  have hz1 := grew hb1
  obtain ⟨hc1, hf1⟩ := bcell hb1
  have hbel1 := fr_box (fr_refl w) hb1
  clear hb1
  cases h0 : (checkResultS r == 0)
  · have hne : checkResultS r ≠ 0 := by simpa using h0
    have hbn : (checkResultS r != 0) = true := by simpa using h0
    have HV := Lib.hid (show resultTextErr r = checkResultS r by rw [resultTextErr, if_pos hne])
    have HN := Lib.hid hne; clear hne
    go_wp2
    go_ret2
    exact ⟨ret_pair (by rw [resultTextS, if_neg (by rw [HV.out]; exact HN.out)]; rfl) (congrArg (Value.int .i64) HV.out.symm), hbel1⟩
  · have hz : checkResultS r = 0 := by simpa using h0
    have hbn : (checkResultS r != 0) = false := by simpa using h0
    have ok := checkResult_ok hz
    have HV := Lib.hid (show resultTextErr r = if 4000000 < ((resultTextL r).length : Int) then 2 else 0 by rw [resultTextErr, if_neg (by rw [hz]; decide)])
    clear hz
    go_wp2_with fail
    refine (C2.out _ hbel1 ok).mono ?_
    rintro e w2 ⟨rfl, hb2⟩
    have hlb : (resultTextL r).length ≤ 9223372036854775807 := by
      have h1 := looks_length ok r.looks.length
      have h2 := files_length ok r.files.length
      have h3 := head_length ok
      rw [List.take_length] at h1 h2
      rw [resultTextL, List.length_append, List.length_append]; omega
    generalize hR : resultTextL r = R at *
    have HR := Lib.hid hR; clear hR
    by_cases hbig : (4000000 : Int) < R.length
    · have HW := Lib.hid (show resultTextErr r = 2 by rw [HV.out, if_pos hbig])
      go_wp2
      go_ret2
      exact ⟨ret_pair (by rw [resultTextS, if_neg (by rw [HW.out]; decide)]; rfl) (congrArg (Value.int .i64) HW.out.symm), fr_call hbel1 hb2⟩
    · have HW := Lib.hid (show resultTextErr r = 0 by rw [HV.out, if_neg hbig])
      go_wp2
      go_ret2
      exact ⟨ret_pair (by rw [resultTextS, if_pos HW.out, HR.out]; rfl) (congrArg (Value.int .i64) HW.out.symm), fr_call hbel1 hb2⟩
end Go.Proofs.Sm
