/- Walks: the program writes a result. -/
import Derived.Test.YtnhcaelapadhaaaGreatDoorW23
import Derived.Test.YtnhcaelapadhaaaGreatDoorW20J
import Derived.Test.YtnhcaelapadhaaaGreatDoorPlain18J
import Derived.Deep.RegionHeld3
namespace Go.Proofs.Sm
open Go.RowKit

theorem fr_wrote {a w w1 : World} {b : Nat} (h : Below a.heap.size a w) (hw : Wrote b w w1) (hb : a.heap.size ≤ b) : Below a.heap.size a w1 := h.trans (hw.1.mono hb)
theorem below_wrote {b : Nat} {a w w1 : World} (h : Below b a w) (hw : Wrote b w w1) : Below b a w1 := h.trans hw.1
theorem below_call {b : Nat} {a w w1 : World} (hlt : b ≤ a.heap.size) (h : Below b a w) (hb : Below w.heap.size w w1) : Below b a w1 := h.trans (hb.mono (Nat.le_trans hlt h.size))

set_option maxHeartbeats 4000000 in
set_option maxRecDepth 100000 in
theorem act_ResultText (r : ResultV) (A : Option Addr) (n c : Nat) (B : Option Addr) (m d : Nat) (w : World) (hE : Env2 w) (hr : ResIs w r A n B m) :
    Calls Tryz.prog 11 #[resVal r A n c B m d] w fun e w' => e = .returned (.tuple #[.string (resultTextS r), .int .i64 (resultTextErr r)]) ∧ Below w.heap.size w w' := by
  unfold resVal
  have hm : n ≤ 9223372036854775807 := hr.files.2.1
  have hmd : m ≤ 9223372036854775807 := hr.looks.2.1
  go_enter Tryz.func11, Tryz.ntmps11
  go_wp2_with fail
  refine (act_CheckResult r A n c B m d _ (hE.toEnv.alloc _) (hr.then_ (fr_alloc (fr_refl w) _))).mono ?_
  rintro e w1 ⟨rfl, hb1⟩
  have hz1 := grew hb1
  have hbx : w1.heap[w.heap.size]? = some (.cells #[.int .i64 r.code, .string r.text, .slice A n c, .slice B m d, .int .i64 r.command] 25 (0, 0)) :=
    (hb1.block _ (by simp)).trans (heap_alloc_new w _)
  have hbel1 := fr_box (fr_refl w) hb1
  clear hb1
  cases h0 : (checkResultS r == 0)
  · have hne : checkResultS r ≠ 0 := by simpa using h0
    have hbn : (checkResultS r != 0) = true := by simpa using h0
    have HV := Lib.hid (show resultTextErr r = checkResultS r by rw [resultTextErr, if_pos hne])
    have HN := Lib.hid hne; clear hne hbx
    go_wp2
    go_ret2
    exact ⟨ret_pair (by rw [resultTextS, if_neg (by rw [HV.out]; exact HN.out)]; rfl) (congrArg (Value.int .i64) HV.out.symm), hbel1⟩
  · have hz : checkResultS r = 0 := by simpa using h0
    have hbn : (checkResultS r != 0) = false := by simpa using h0
    have ok := checkResult_ok hz
    have HV := Lib.hid (show resultTextErr r = if 4000000 < ((resultTextL r).length : Int) then 2 else 0 by rw [resultTextErr, if_neg (by rw [hz]; decide)])
    clear hz
    have hBx := Lib.hid hbx; clear hbx
    go_wp2
    have hB := Bld.new w1
    have hEn : Env2 (w1.alloc (.cells #[.pointer none, .slice none 0 0] 68)) := (hE.then_ hbel1).alloc _
    have hX : (w1.alloc (.cells #[.pointer none, .slice none 0 0] 68)).heap[w.heap.size]? = some (.cells #[.int .i64 r.code, .string r.text, .slice A n c, .slice B m d, .int .i64 r.command] 25 (0, 0)) := (Lib.alloc_old w1 _ _ hz1).trans hBx.out
    have hfl := sl_call hr.files (fr_alloc hbel1 (.cells #[.pointer none, .slice none 0 0] 68)) (Nat.le_refl _)
    have hlk := sl_call hr.looks (fr_alloc hbel1 (.cells #[.pointer none, .slice none 0 0] 68)) (Nat.le_refl _)
    have hbel2 := fr_alloc hbel1 (.cells #[.pointer none, .slice none 0 0] 68)
    have hgw : w.heap.size ≤ w1.heap.size := by omega
    generalize hg : w1.heap.size = g at *
    have hgW : g ≤ (w1.alloc (.cells #[.pointer none, .slice none 0 0] 68)).heap.size := by simp; omega
    have HG := Lib.hid hg; clear hg
    generalize w1.alloc (.cells #[.pointer none, .slice none 0 0] 68) = W at *
    have hcd : InInt r.code := hr.code
    have hcm : InInt r.command := hr.command
    have hts : InInt (r.text.size : Int) := by unfold InInt; have := hr.text; unfold maxLen at this; omega
    have HK := Lib.hid (show ∀ w', Below g W w' → (Below g W w' ∧ w'.cell? ⟨w.heap.size, 0, none⟩ = some (.int .i64 r.code) ∧ w'.cell? ⟨w.heap.size, 1, none⟩ = some (.string r.text) ∧ w'.cell? ⟨w.heap.size, 4, none⟩ = some (.int .i64 r.command)) from fun w' h => by
      have h1 : w'.heap[w.heap.size]? = _ := (h.block _ hz1).trans hX
      refine ⟨h, ?_, ?_, ?_⟩ <;> (rw [World.cell?, h1]; rfl))
    have HEn := Lib.hid (show ∀ w', Below g W w' → Env2 w' from fun w' h => hEn.of_heap h.size fun k hk => h.block k (Nat.lt_of_lt_of_le hk (Nat.le_trans hE.size hgw)))
    obtain ⟨s1, k1, E1, C1⟩ := itoa_op r.code hcd
    obtain ⟨s2, k2, E2, C2⟩ := itoa_op r.command hcm
    obtain ⟨s3, k3, E3, C3⟩ := itoa_op (r.text.size : Int) hts
    have k4 := ok.text
    have q1 : (⟨#[99, 111, 100, 101, 32]⟩ : ByteArray).size = 5 := rfl
    have q2 : (⟨#[32]⟩ : ByteArray).size = 1 := rfl
    have q3 : (⟨#[10, 116, 101, 120, 116, 32]⟩ : ByteArray).size = 6 := rfl
    have q4 : (⟨#[10]⟩ : ByteArray).size = 1 := rfl
    obtain ⟨p1, z1, P1, a1⟩ := cat_op ⟨#[99, 111, 100, 101, 32]⟩ s1 (by omega)
    obtain ⟨p2, z2, P2, a2⟩ := cat_op p1 ⟨#[32]⟩ (by omega)
    obtain ⟨p3, z3, P3, a3⟩ := cat_op p2 s2 (by omega)
    obtain ⟨p4, z4, P4, a4⟩ := cat_op p3 ⟨#[10, 116, 101, 120, 116, 32]⟩ (by omega)
    obtain ⟨p5, z5, P5, a5⟩ := cat_op p4 s3 (by omega)
    obtain ⟨p6, z6, P6, a6⟩ := cat_op p5 ⟨#[10]⟩ (by omega)
    obtain ⟨p7, z7, P7, a7⟩ := cat_op p6 r.text (by omega)
    have z8 : p7.size ≤ 200000 := by omega
    clear q1 q2 q3 q4 z1 z2 z3 z4 z5 z6 z7
    go_region_held3 (fun w' => Below g W w' ∧ w'.cell? ⟨w.heap.size, 0, none⟩ = some (.int .i64 r.code) ∧ w'.cell? ⟨w.heap.size, 1, none⟩ = some (.string r.text) ∧ w'.cell? ⟨w.heap.size, 4, none⟩ = some (.int .i64 r.command))
      (first | assumption | exact HK.out _ (Below.refl _ _).drew | exact HK.out _ (below_call hgW (And.left (by assumption)) hbc) | exact HK.out _ (below_wrote (And.left (by assumption)) hwc))
      (first
        | (go_at_call_of 26 (Value.int .i64 r.code); refine (C1.out _ (HEn.out _ (And.left (by assumption)))).mono ?_; rintro e wc ⟨rfl, hbc⟩)
        | (go_at_call_of 26 (Value.int .i64 r.command); refine (C2.out _ (HEn.out _ (And.left (by assumption)))).mono ?_; rintro e wc ⟨rfl, hbc⟩)
        | (go_at_call_of 26 (Value.int .i64 (r.text.size : Int)); refine (C3.out _ (HEn.out _ (And.left (by assumption)))).mono ?_; rintro e wc ⟨rfl, hbc⟩)
        | (go_at_call 27; refine (bld_WriteString g [] _ _ (by repeat (first | exact hB | exact Bld.drew hB | refine Bld.call ?_ (by assumption))) (by simp; omega)).mono ?_; rintro e wc ⟨rfl, hBc, hwc⟩))
    have hbc1 : Below g W wc := And.left (by assumption)
    have hT : p7.data.toList = headTextS r := by rw [P7.out, P6.out, P5.out, P4.out, P3.out, P2.out, P1.out, E1.out, E2.out, E3.out]; simp [headTextS]
    rw [List.nil_append, hT] at hBc
    clear hT a1 a2 a3 a4 a5 a6 a7 hB hcd hcm hts C1 C2 C3 E1 E2 E3 P1 P2 P3 P4 P5 P6 P7 k1 k2 k3 k4 z8 hBx hfl hlk
    have hfl : Sl W (Lt g) A n r.files := (hr.files.keep (keep_lt hbel2)).more (lt_mono hgw)
    have hlk : Sl W (Lt g) B m r.looks := (hr.looks.keep (keep_lt hbel2)).more (lt_mono hgw)
    have hX2 : wc.cell? ⟨w.heap.size, 2, none⟩ = some (.slice A n c) := by rw [World.cell?, (hbc1.block _ hz1).trans hX]; rfl
    have HX := Lib.hid hX; clear hX
    go_wp2
    go_loopw [8, 42] (fun _ i wr => ∃ k : Nat, k ≤ n ∧ i = .int .i64 k ∧ Bld wr g (headTextS r ++ (r.files.take k).flatMap fileTextS) ∧ Below g W wr) (fun _ i _ => n - (intOf i).toNat)
    case atStart => exact ⟨0, Nat.zero_le _, rfl, by simpa using hBc, hbc1⟩
    case round =>
      clear hBc hbc1 hX2
      obtain ⟨k, hk, rfl, hBr, hbr⟩ := hrel
      by_cases hlt : k < n
      · obtain ⟨b, o, x, A', n', c', rfl, hb, hx, hs1, hnc, hcm, hsl', c0, c1, c2⟩ := (hfl.keep (keep_lt hbr)).file hlt
        have hbg : b < g := hb
        have hgr : g < wr.heap.size := hBr.lt
        have hbw : b < wr.heap.size := by omega
        have hsz := files_sizes ok.files x (List.mem_of_getElem? hx)
        have hfll := files_length ok k
        have hhl := head_length ok
        have hn' := hsl'.1
        have HX2 := Lib.hid hx; clear hx
        have hlen : (headTextS r ++ (r.files.take k).flatMap fileTextS).length ≤ 100500000 := by rw [List.length_append]; omega
        have hin : InInt (n' : Int) := by unfold InInt; omega
        go_wp2
        have hBv := hBr.alloc (.cells #[.string x.path, .bool x.run, .slice A' n' c'] 65)
        have hbv := Below.alloc (w := wr) hbr (Nat.le_of_lt hgr) (.cells #[.string x.path, .bool x.run, .slice A' n' c'] 65)
        have hV : (wr.alloc (.cells #[.string x.path, .bool x.run, .slice A' n' c'] 65)).heap[wr.heap.size]? = some (.cells #[.string x.path, .bool x.run, .slice A' n' c'] 65 (0, 0)) := heap_alloc_new wr _
        have hgv : g ≤ (wr.alloc (.cells #[.string x.path, .bool x.run, .slice A' n' c'] 65)).heap.size := by simp; omega
        have hslv : Sl (wr.alloc (.cells #[.string x.path, .bool x.run, .slice A' n' c'] 65)) (Lt g) A' n' x.bytes := hsl'.keep (keep_lt ((Below.refl g wr).alloc (Nat.le_of_lt hgr) _))
        generalize wr.heap.size = h at *
        generalize wr.alloc (.cells #[.string x.path, .bool x.run, .slice A' n' c'] 65) = V at *
        generalize hLd : headTextS r ++ (r.files.take k).flatMap fileTextS = L at *
        have HLd := Lib.hid hLd; clear hLd
        have HK := Lib.hid (show ∀ w', Wrote g V w' → (Wrote g V w' ∧ w'.cell? ⟨h, 0, none⟩ = some (.string x.path) ∧ w'.cell? ⟨h, 1, none⟩ = some (.bool x.run) ∧ w'.cell? ⟨h, 2, none⟩ = some (.slice A' n' c')) from fun w' hw => by
          have h1 := hw.box hV (by omega) (by decide)
          refine ⟨hw, ?_, ?_, ?_⟩ <;> (rw [World.cell?, h1]; rfl))
        have HEv := Lib.hid (show ∀ w', Wrote g V w' → Env2 w' from fun w' hw => HEn.out _ (hbv.trans hw.1))
        obtain ⟨s1, k1, E1, C1⟩ := itoa_op (n' : Int) hin
        obtain ⟨s2, k2, E2, C2⟩ := runText_op x.run
        have q1 : (⟨#[102, 105, 108, 101, 32]⟩ : ByteArray).size = 5 := rfl
        have q2 : (⟨#[32]⟩ : ByteArray).size = 1 := rfl
        have q4 : (⟨#[10]⟩ : ByteArray).size = 1 := rfl
        obtain ⟨p1, z1, P1, a1⟩ := cat_op ⟨#[102, 105, 108, 101, 32]⟩ x.path (by omega)
        obtain ⟨p2, z2, P2, a2⟩ := cat_op p1 ⟨#[32]⟩ (by omega)
        obtain ⟨p3, z3, P3, a3⟩ := cat_op p2 s2 (by omega)
        obtain ⟨p4, z4, P4, a4⟩ := cat_op p3 ⟨#[32]⟩ (by omega)
        obtain ⟨p5, z5, P5, a5⟩ := cat_op p4 s1 (by omega)
        obtain ⟨p6, z6, P6, a6⟩ := cat_op p5 ⟨#[10]⟩ (by omega)
        have z8 : p6.size ≤ 400 := by omega
        clear q1 q2 q4 z1 z2 z3 z4 z5 z6
        go_region_held3 (fun w' => Wrote g V w' ∧ w'.cell? ⟨h, 0, none⟩ = some (.string x.path) ∧ w'.cell? ⟨h, 1, none⟩ = some (.bool x.run) ∧ w'.cell? ⟨h, 2, none⟩ = some (.slice A' n' c'))
          (first | assumption | exact HK.out _ (Wrote.refl _ _).drew | exact HK.out _ (Wrote.call hgv (And.left (by assumption)) hbc) | exact HK.out _ (Wrote.trans (And.left (by assumption)) hwc))
          (first
            | (go_at_call 28; refine (C2.out _).mono ?_; rintro e wc ⟨rfl, rfl⟩)
            | (go_at_call 26; refine (C1.out _ (HEv.out _ (And.left (by assumption)))).mono ?_; rintro e wc ⟨rfl, hbc⟩)
            | (go_at_call 27; refine (bld_WriteString g L _ _ (by repeat (first | exact hBv | exact Bld.drew hBv | refine Bld.call ?_ (by assumption))) (by omega)).mono ?_; rintro e wc ⟨rfl, hBc, hwc⟩))
        have hwv : Wrote g V wc := And.left (by assumption)
        have hfh : p6.data.toList = fileHeadS x := by rw [P6.out, P5.out, P4.out, P3.out, P2.out, P1.out, E1.out, E2.out, ← hn']; simp [fileHeadS]
        rw [hfh] at hBc
        have hsl2 := hslv.keep (keep_lt hwv.1)
        have HFl := Lib.hid (show (fileHeadS x).length ≤ 400 by rw [← hfh]; simpa using z8)
        clear a1 a2 a3 a4 a5 a6 P1 P2 P3 P4 P5 P6 E1 E2 C1 C2 hfh k1 k2 z8 hBv hBr HK HEv hin
        have hl1 : (L ++ fileHeadS x).length + n' ≤ 140737488355328 := by have := HFl.out; rw [List.length_append]; omega
        have HN := Lib.hid hn'; clear hn'
        go_wp2_with fail
        refine (bld_Write g _ x.bytes A' n' c' _ hBc hsl2 hl1).mono ?_
        rintro e w3 ⟨rfl, hB3, hw3⟩
        have hl2 : (L ++ fileHeadS x ++ x.bytes).length + (⟨#[10]⟩ : ByteArray).size ≤ 140737488355328 := by
          have := HFl.out
          have h1 : (⟨#[10]⟩ : ByteArray).size = 1 := rfl
          rw [List.length_append, List.length_append, h1]; omega
        go_wp2_with fail
        refine (bld_WriteString g _ _ _ hB3 hl2).mono ?_
        rintro e w4 ⟨rfl, hB4, hw4⟩
        go_wp2
        go_round
        case rel =>
          refine ⟨k + 1, by omega, by go_num, ?_, ((hbv.trans hwv.1).trans hw3.1).trans hw4.1⟩
          rw [flatMap_succ HX2.out, ← List.append_assoc, HLd.out, fileTextS, ← List.append_assoc, ← List.append_assoc]
          exact hB4
        case measure => simp [intOf]; omega
      · have HF := Lib.hid (show r.files.take k = r.files from List.take_of_length_le (by rw [hfl.1]; omega))
        rw [HF.out] at hBr
        have hX3 : wr.cell? ⟨w.heap.size, 3, none⟩ = some (.slice B m d) := by rw [World.cell?, (hbr.block _ hz1).trans HX.out]; rfl
        have hfll := files_length ok r.files.length
        rw [List.take_length] at hfll
        have hhl := head_length ok
        have HHL := Lib.hid (show headTextS r ++ r.files.flatMap fileTextS ++ r.looks.flatMap lookLineS = resultTextL r from rfl)
        have hlen0 : (headTextS r ++ r.files.flatMap fileTextS).length ≤ 100500000 := by rw [List.length_append]; omega
        generalize headTextS r ++ r.files.flatMap fileTextS = L at *
        clear hfll hhl
        go_wp2
        go_loopw [10, 71] (fun _ i wr => ∃ k : Nat, k ≤ m ∧ i = .int .i64 k ∧ Bld wr g (L ++ (r.looks.take k).flatMap lookLineS) ∧ Below g W wr) (fun _ i _ => m - (intOf i).toNat)
        case atStart => exact ⟨0, Nat.zero_le _, rfl, by simpa using hBr, hbr⟩
        case round =>
          clear hBr hbr hX3
          obtain ⟨q, hq, rfl, hBr, hbr⟩ := hrel
          by_cases hlt2 : q < m
          · obtain ⟨b, o, x, rfl, hb, hx, hs1, hs2, c0, c1, c2⟩ := (hlk.keep (keep_lt hbr)).look hlt2
            have hbg : b < g := hb
            have hgr : g < wr.heap.size := hBr.lt
            have hbw : b < wr.heap.size := by omega
            have hsz := looks_sizes ok.looks x (List.mem_of_getElem? hx)
            have hll := looks_length ok q
            have hl1 := lookLine_length x hsz.1 hsz.2
            have hl2 : (L ++ (r.looks.take q).flatMap lookLineS).length + (⟨(lookLineS x).toArray⟩ : ByteArray).size ≤ 140737488355328 := by
              have h1 : (⟨(lookLineS x).toArray⟩ : ByteArray).size = (lookLineS x).length := by simp [ByteArray.size]
              rw [List.length_append, h1]; omega
            have HX2 := Lib.hid hx; clear hx
            have HL2 := Lib.hid hl2; clear hl2 hll hl1
            go_wp2_with fail
            refine (act_lookText x _ (by omega) (by omega)).mono ?_
            rintro e w3 ⟨rfl, hb3⟩
            have hB3 := (hBr.alloc (.cells #[.string x.path, .string x.digest, .bool x.run] 57)).call hb3
            go_wp2_with fail
            refine (bld_WriteString g _ _ _ hB3 HL2.out).mono ?_
            rintro e w4 ⟨rfl, hB4, hw4⟩
            have hbr4 : Below g W w4 := ((hbr.alloc (Nat.le_of_lt hgr) _).trans (hb3.mono (by simp; omega))).trans hw4.1
            go_wp2
            go_round
            case rel =>
              refine ⟨q + 1, by omega, by go_num, ?_, hbr4⟩
              rw [flatMap_succ HX2.out, ← List.append_assoc]
              simpa using hB4
            case measure => simp [intOf]; omega
          · have HF2 := Lib.hid (show r.looks.take q = r.looks from List.take_of_length_le (by rw [hlk.1]; omega))
            rw [HF2.out, HHL.out] at hBr
            have hlb : (resultTextL r).length ≤ 9223372036854775807 := by
              have h1 := looks_length ok r.looks.length
              rw [List.take_length] at h1
              rw [← HHL.out, List.length_append]; omega
            generalize hR : resultTextL r = R at *
            have HR := Lib.hid hR; clear hR
            go_wp2_with fail
            refine (bld_Len g R _ hBr).mono ?_
            rintro e w5 ⟨rfl, rfl⟩
            by_cases hbig : (4000000 : Int) < R.length
            · have HW := Lib.hid (show resultTextErr r = 2 by rw [HV.out, if_pos hbig])
              go_wp2
              go_ret2
              exact ⟨ret_pair (by rw [resultTextS, if_neg (by rw [HW.out]; decide)]; rfl) (congrArg (Value.int .i64) HW.out.symm), hbel2.trans (hbr.mono hgw)⟩
            · have HW := Lib.hid (show resultTextErr r = 0 by rw [HV.out, if_neg hbig])
              go_wp2_with fail
              refine (bld_String g R _ hBr).mono ?_
              rintro e w6 ⟨rfl, hB6, hw6⟩
              go_wp2
              go_ret2
              exact ⟨ret_pair (by rw [resultTextS, if_pos HW.out, HR.out]; rfl) (congrArg (Value.int .i64) HW.out.symm), (hbel2.trans (hbr.mono hgw)).trans (hw6.1.mono hgw)⟩
end Go.Proofs.Sm
