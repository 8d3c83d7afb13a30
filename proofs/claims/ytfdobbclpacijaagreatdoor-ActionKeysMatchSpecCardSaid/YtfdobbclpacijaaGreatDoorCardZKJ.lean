import Derived.Test.YtfdobbclpacijaaGreatDoorW40J
import Derived.Lib.ConvBytes
import Derived.Test.YtfdobbclpacijaaGreatDoorTopJ
import Derived.Test.YtfdobbclpacijaaGreatDoorCardZClosed7
namespace Go.Proofs.Sm
open Go.RowKit

/-- bytes of a string, in a row of their own -/
theorem to_bytes (s : ByteArray) (hs : s.size ≤ maxLen) (w : World) : ∃ w2 c, (convert 9 63 (.string s)).run Tryz.prog w = .ok (.slice (some ⟨w.heap.size, 0, none⟩) s.size c) w2 ∧ Below w.heap.size w w2 ∧ Sl w2 (Lt w2.heap.size) (some ⟨w.heap.size, 0, none⟩) s.size s.data.toList := by
  refine ⟨Lib.bytesWorld w 5 s, _, Lib.run_convert_string_bytes (P := Tryz.prog) w 9 63 5 s Tryz.underlying9 Tryz.underlying63 Tryz.underlying5, ⟨rfl, rfl, rfl, by rw [Lib.bytesWorld_size]; omega, fun k hk => Lib.bytesWorld_at_old w _ s k hk⟩, by simp, hs, fun _ => ⟨_, _, rfl, by show _ < _; rw [Lib.bytesWorld_size]; omega, fun i x hx => ⟨[.int .u8 x.toNat], rfl, fun j v hv => ?_⟩⟩⟩
  have hj : j = 0 ∧ v = .int .u8 x.toNat := by
    cases j with
    | zero => simp at hv; exact ⟨rfl, hv.symm⟩
    | succ j => simp at hv
  obtain ⟨rfl, rfl⟩ := hj
  have hi : i < s.data.toList.length := (List.getElem?_eq_some_iff.1 hx).1
  have h := Lib.bytesWorld_cell w 5 s i (by simpa using hi)
  simp only [Rep.sz, Nat.mul_one, Nat.add_zero, Nat.zero_add]
  rw [h, List.getD_eq_getElem?_getD, hx]; rfl
def keyErr (a : ActionV) (r : ByteArray) : Int := if checkActionS a ≠ 0 then checkActionS a else if isDigestS r = false then 3 else 0
def keyS (a : ActionV) (r : ByteArray) : ByteArray := if keyErr a r = 0 then digestS (actTextL a ++ [114, 111, 111, 116, 32] ++ r.data.toList ++ [10]) else ⟨#[]⟩
def keyOfErr (a : ActionV) (l : List Look) : Int := if checkActionS a ≠ 0 then checkActionS a else checkLooksS l
def keyOfS (a : ActionV) (l : List Look) : ByteArray := if keyOfErr a l = 0 then digestS (actTextL a ++ l.flatMap lookLineS) else ⟨#[]⟩
theorem looks_len {l : List Look} (h : checkLooksS l = 0) (k : Nat) : ((l.take k).flatMap lookLineS).length ≤ 920000 := by
  have h1 : l.length ≤ 4000 := by
    unfold checkLooksS at h
    split at h <;> omega
  have h2 := flatMap_take (f := lookLineS) (m := 230) h1 (fun x hx => by
    have := looks_sizes h x hx
    exact lookLine_length x this.1 this.2) k
  omega
set_option maxHeartbeats 1000000 in
set_option maxRecDepth 100000 in
theorem act_Key (a : ActionV) (A : Option Addr) (n n' : Nat) (B : Option Addr) (m m' : Nat) (C : Option Addr) (p p' : Nat) (D : Option Addr) (q q' : Nat) (r : ByteArray) (w : World) (hr : r.size ≤ maxLen) (hE : Env2 w) (ha : ActIs w a A n B m C p D q) :
    Calls Tryz.prog 28 #[actVal a A n n' B m m' C p p' D q q', .string r] w fun e w' => e = .returned (.tuple #[.string (keyS a r), .int .i64 (keyErr a r)]) ∧ Below w.heap.size w w' := by
  have hv : actVal a A n n' B m m' C p p' D q q' = .agg #[.string a.tool, .slice A n n', .slice B m m', .slice C p p', .slice D q q', .int .i64 a.time] := rfl
  have C1 := Lib.hid (fun w' (hb : Below w.heap.size w w') => act_CheckAction a A n n' B m m' C p p' D q q' w' (hE.then_ hb).toEnv (ha.then_ hb))
  have C2 := Lib.hid (fun w' (hb : Below w.heap.size w w') ok => act_text a A n n' B m m' C p p' D q q' w' (hE.then_ hb) (ha.then_ hb) ok)
  rw [hv] at C1 C2 ⊢
  clear hv
  go_enter Tryz.func28, Tryz.ntmps28
  go_wp2_with fail
  refine (C1.out _ (fr_alloc (fr_refl w) _)).mono ?_
  rintro e w1 ⟨rfl, hb1⟩
  have hz1 := grew hb1
  obtain ⟨hc1, hf1⟩ := bcell hb1
  have hbel1 := fr_box (fr_refl w) hb1
  clear hb1
  cases h0 : (checkActionS a == 0)
  · have hne : checkActionS a ≠ 0 := by simpa using h0
    have hbn : (checkActionS a != 0) = true := by simpa using h0
    have HE := Lib.hid (show keyErr a r = checkActionS a by rw [keyErr, if_pos hne])
    have HN := Lib.hid hne; clear hne
    go_wp2
    go_ret2
    exact ⟨ret_pair (by rw [keyS, if_neg (by rw [HE.out]; exact HN.out)]; rfl) (congrArg (Value.int .i64) HE.out.symm), hbel1⟩
  have hz : checkActionS a = 0 := by simpa using h0
  have hbn : (checkActionS a != 0) = false := by simpa using h0
  have ok := checkAction_ok hz
  have HE := Lib.hid (show keyErr a r = if isDigestS r = false then 3 else 0 by rw [keyErr, if_neg (by rw [hz]; decide)])
  clear hz
  cases hd : isDigestS r
  · have HF := Lib.hid (show keyErr a r = 3 by rw [HE.out, if_pos hd])
    go_wp2_with (go_at_call 70; refine (blob_IsDigest _ _ hr).mono ?_; rintro e w2 ⟨rfl, hb2⟩)
    go_ret2
    exact ⟨ret_pair (by rw [keyS, if_neg (by rw [HF.out]; decide)]; rfl) (congrArg (Value.int .i64) HF.out.symm), fr_call hbel1 hb2⟩
  · have HF := Lib.hid (show keyErr a r = 0 by rw [HE.out, if_neg (by rw [hd]; decide)])
    have hrs := digest_size (.inr hd)
    have htl := actText_length ok
    go_wp2_with fail
    refine (blob_IsDigest _ _ hr).mono ?_
    rintro e w2 ⟨rfl, hb2⟩
    obtain ⟨hc2, hf2⟩ := bcell hb2
    have hbel2 := fr_call hbel1 hb2
    go_wp2_with fail
    refine (C2.out _ hbel2 ok).mono ?_
    rintro e w3 ⟨rfl, hb3⟩
    have hbel3 := fr_call hbel2 hb3
    obtain ⟨t, ht⟩ : ∃ t : ByteArray, t = ⟨(actTextL a).toArray⟩ := ⟨_, rfl⟩
    have htz : t.size = (actTextL a).length := by rw [ht]; simp [ByteArray.size]
    have HTL := Lib.hid (show t.data.toList = actTextL a by rw [ht])
    rw [← ht]
    clear ht
    have q1 : (⟨#[114, 111, 111, 116, 32]⟩ : ByteArray).size = 5 := rfl
    have q4 : (⟨#[10]⟩ : ByteArray).size = 1 := rfl
    obtain ⟨p1, z1, P1, a1⟩ := cat_op t ⟨#[114, 111, 111, 116, 32]⟩ (by omega)
    obtain ⟨p2, z2, P2, a2⟩ := cat_op p1 r (by omega)
    obtain ⟨p3, z3, P3, a3⟩ := cat_op p2 ⟨#[10]⟩ (by omega)
    have HP := Lib.hid (show p3.data.toList = actTextL a ++ [114, 111, 111, 116, 32] ++ r.data.toList ++ [10] by rw [P3.out, P2.out, P1.out, HTL.out])
    obtain ⟨w3', c3, hcv, hb3', hsl3⟩ := to_bytes p3 (by unfold maxLen; omega) w3
    clear q1 q4 z1 z2 z3 P1 P2 P3 htl
    go_wp2_with fail
    refine (blob_Digest _ _ _ _ _ hsl3).mono ?_
    rintro e w4 ⟨rfl, hb4⟩
    go_wp2
    go_ret2
    exact ⟨ret_pair (by rw [keyS, if_pos HF.out, HP.out]; rfl) (congrArg (Value.int .i64) HF.out.symm), fr_call (fr_call hbel3 hb3') hb4⟩
set_option maxHeartbeats 1000000 in
set_option maxRecDepth 100000 in
theorem ref5_Key (a : ActionV) (A : Option Addr) (n n' : Nat) (B : Option Addr) (m m' : Nat) (C : Option Addr) (p p' : Nat) (D : Option Addr) (q q' : Nat) (r : ByteArray) (w : World) (hr : r.size ≤ maxLen) (hE : Env2 w) (ha : ActIs w a A n B m C p D q) :
    Calls Tryz.prog 29 #[actVal a A n n' B m m' C p p' D q q', .string r] w fun e w' => e = .returned (.tuple #[.string (keyS a r), .int .i64 (keyErr a r)]) ∧ Below w.heap.size w w' := by
  have hv : actVal a A n n' B m m' C p p' D q q' = .agg #[.string a.tool, .slice A n n', .slice B m m', .slice C p p', .slice D q q', .int .i64 a.time] := rfl
  have C1 := Lib.hid (fun w' (hb : Below w.heap.size w w') => ref5_CheckAction a A n n' B m m' C p p' D q q' w' (hE.then_ hb).toEnv (ha.then_ hb))
  have C2 := Lib.hid (fun w' (hb : Below w.heap.size w w') ok => ref5_TextOf a A n n' B m m' C p p' D q q' w' (hE.then_ hb) (ha.then_ hb) ok)
  rw [hv] at C1 C2 ⊢
  clear hv
  go_enter Tryz.func29, Tryz.ntmps29
  go_wp2_with fail
  refine (C1.out _ (fr_alloc (fr_refl w) _)).mono ?_
  rintro e w1 ⟨rfl, hb1⟩
  have hz1 := grew hb1
  obtain ⟨hc1, hf1⟩ := bcell hb1
  have hbel1 := fr_box (fr_refl w) hb1
  clear hb1
  cases h0 : (checkActionS a == 0)
  · have hne : checkActionS a ≠ 0 := by simpa using h0
    have hbn : (checkActionS a != 0) = true := by simpa using h0
    have HE := Lib.hid (show keyErr a r = checkActionS a by rw [keyErr, if_pos hne])
    have HN := Lib.hid hne; clear hne
    go_wp2
    go_ret2
    exact ⟨ret_pair (by rw [keyS, if_neg (by rw [HE.out]; exact HN.out)]; rfl) (congrArg (Value.int .i64) HE.out.symm), hbel1⟩
  have hz : checkActionS a = 0 := by simpa using h0
  have hbn : (checkActionS a != 0) = false := by simpa using h0
  have ok := checkAction_ok hz
  have HE := Lib.hid (show keyErr a r = if isDigestS r = false then 3 else 0 by rw [keyErr, if_neg (by rw [hz]; decide)])
  clear hz
  cases hd : isDigestS r
  · have HF := Lib.hid (show keyErr a r = 3 by rw [HE.out, if_pos hd])
    go_wp2_with (go_at_call 74; refine (ref1_IsDigest' _ _ hr).mono ?_; rintro e w2 ⟨rfl, hb2⟩)
    go_ret2
    exact ⟨ret_pair (by rw [keyS, if_neg (by rw [HF.out]; decide)]; rfl) (congrArg (Value.int .i64) HF.out.symm), fr_call hbel1 hb2⟩
  · have HF := Lib.hid (show keyErr a r = 0 by rw [HE.out, if_neg (by rw [hd]; decide)])
    have hrs := digest_size (.inr hd)
    have htl := actText_length ok
    go_wp2_with fail
    refine (ref1_IsDigest' _ _ hr).mono ?_
    rintro e w2 ⟨rfl, hb2⟩
    obtain ⟨hc2, hf2⟩ := bcell hb2
    have hbel2 := fr_call hbel1 hb2
    go_wp2_with fail
    refine (C2.out _ hbel2 ok).mono ?_
    rintro e w3 ⟨rfl, hb3⟩
    have hbel3 := fr_call hbel2 hb3
    obtain ⟨t, ht⟩ : ∃ t : ByteArray, t = ⟨(actTextL a).toArray⟩ := ⟨_, rfl⟩
    have htz : t.size = (actTextL a).length := by rw [ht]; simp [ByteArray.size]
    have HTL := Lib.hid (show t.data.toList = actTextL a by rw [ht])
    rw [← ht]
    clear ht
    have q1 : (⟨#[114, 111, 111, 116, 32]⟩ : ByteArray).size = 5 := rfl
    have q4 : (⟨#[10]⟩ : ByteArray).size = 1 := rfl
    obtain ⟨p1, z1, P1, a1⟩ := cat_op t ⟨#[114, 111, 111, 116, 32]⟩ (by omega)
    obtain ⟨p2, z2, P2, a2⟩ := cat_op p1 r (by omega)
    obtain ⟨p3, z3, P3, a3⟩ := cat_op p2 ⟨#[10]⟩ (by omega)
    have HP := Lib.hid (show p3.data.toList = actTextL a ++ [114, 111, 111, 116, 32] ++ r.data.toList ++ [10] by rw [P3.out, P2.out, P1.out, HTL.out])
    obtain ⟨w3', c3, hcv, hb3', hsl3⟩ := to_bytes p3 (by unfold maxLen; omega) w3
    clear q1 q4 z1 z2 z3 P1 P2 P3 htl
    go_wp2_with fail
    refine (ref1_Digest _ _ _ _ _ hsl3).mono ?_
    rintro e w4 ⟨rfl, hw4⟩
    have hb4 : Below w3'.heap.size w3' w4 := below_eq hw4
    clear hw4
    go_wp2
    go_ret2
    exact ⟨ret_pair (by rw [keyS, if_pos HF.out, HP.out]; rfl) (congrArg (Value.int .i64) HF.out.symm), fr_call (fr_call hbel3 hb3') hb4⟩
end Go.Proofs.Sm

namespace Go.Proofs.Sm
open Go.RowKit

set_option maxHeartbeats 1000000 in
set_option maxRecDepth 100000 in
theorem act_KeyOf (a : ActionV) (A : Option Addr) (n n' : Nat) (B : Option Addr) (m m' : Nat) (C : Option Addr) (p p' : Nat) (D : Option Addr) (q q' : Nat) (E : Option Addr) (z z' : Nat) (l : List Look) (w : World) (hE : Env2 w) (ha : ActIs w a A n B m C p D q) (hl : Sl w (Lt w.heap.size) E z l) :
    Calls Tryz.prog 30 #[actVal a A n n' B m m' C p p' D q q', .slice E z z'] w fun e w' => e = .returned (.tuple #[.string (keyOfS a l), .int .i64 (keyOfErr a l)]) ∧ Below w.heap.size w w' := by
  have hm : z ≤ 9223372036854775807 := hl.2.1
  have hv : actVal a A n n' B m m' C p p' D q q' = .agg #[.string a.tool, .slice A n n', .slice B m m', .slice C p p', .slice D q q', .int .i64 a.time] := rfl
  have C1 := Lib.hid (fun w' (hb : Below w.heap.size w w') => act_CheckAction a A n n' B m m' C p p' D q q' w' (hE.then_ hb).toEnv (ha.then_ hb))
  have C2 := Lib.hid (fun w' (hb : Below w.heap.size w w') ok => act_text a A n n' B m m' C p p' D q q' w' (hE.then_ hb) (ha.then_ hb) ok)
  have C3 := Lib.hid (fun w' (hb : Below w.heap.size w w') => act_CheckLooks E z z' l w' (hE.then_ hb).toEnv (sl_call hl hb (Nat.le_refl _)))
  rw [hv] at C1 C2 ⊢
  clear hv
  go_enter Tryz.func30, Tryz.ntmps30
  go_wp2_with fail
  refine (C1.out _ (fr_alloc (fr_refl w) _)).mono ?_
  rintro e w1 ⟨rfl, hb1⟩
  have hz1 := grew hb1
  obtain ⟨hc1, hf1⟩ := bcell hb1
  have hbel1 := fr_box (fr_refl w) hb1
  clear hb1
  cases h0 : (checkActionS a == 0)
  · have hne : checkActionS a ≠ 0 := by simpa using h0
    have hbn : (checkActionS a != 0) = true := by simpa using h0
    have HE := Lib.hid (show keyOfErr a l = checkActionS a by rw [keyOfErr, if_pos hne])
    have HN := Lib.hid hne; clear hne
    go_wp2
    go_ret2
    exact ⟨ret_pair (by rw [keyOfS, if_neg (by rw [HE.out]; exact HN.out)]; rfl) (congrArg (Value.int .i64) HE.out.symm), hbel1⟩
  have hz : checkActionS a = 0 := by simpa using h0
  have hbn : (checkActionS a != 0) = false := by simpa using h0
  have ok := checkAction_ok hz
  have HE := Lib.hid (show keyOfErr a l = checkLooksS l by rw [keyOfErr, if_neg (by rw [hz]; decide)])
  clear hz
  go_wp2_with fail
  refine (C3.out _ hbel1).mono ?_
  rintro e w2 ⟨rfl, hb2⟩
  obtain ⟨hc2, hf2⟩ := bcell hb2
  have hbel2 := fr_call hbel1 hb2
  have hz2 : w.heap.size < w2.heap.size := Nat.lt_of_lt_of_le hz1 hb2.size
  cases h1 : (checkLooksS l == 0)
  · have hne : checkLooksS l ≠ 0 := by simpa using h1
    have hbn1 : (checkLooksS l != 0) = true := by simpa using h1
    have HN := Lib.hid hne; clear hne
    go_wp2
    go_ret2
    exact ⟨ret_pair (by rw [keyOfS, if_neg (by rw [HE.out]; exact HN.out)]; rfl) (congrArg (Value.int .i64) HE.out.symm), hbel2⟩
  have hz' : checkLooksS l = 0 := by simpa using h1
  have hbn1 : (checkLooksS l != 0) = false := by simpa using h1
  have HZ := Lib.hid hz'
  have HR := Lib.hid (show keyOfErr a l = 0 by rw [HE.out, hz'])
  clear hz'
  go_wp2_with fail
  refine (C2.out _ hbel2 ok).mono ?_
  rintro e w3 ⟨rfl, hb3⟩
  have hbel3 := fr_call hbel2 hb3
  obtain ⟨t0, ht⟩ : ∃ t : ByteArray, t = ⟨(actTextL a).toArray⟩ := ⟨_, rfl⟩
  have HTL := Lib.hid (show t0.data.toList = actTextL a by rw [ht])
  rw [← ht]
  clear ht
  have htl := actText_length ok
  go_wp2
  go_loopw [8, 10, 25] (fun s _ i wr => ∃ (k : Nat) (t : ByteArray), k ≤ z ∧ i = .int .i64 k ∧ s = .string t ∧ t.data.toList = actTextL a ++ (l.take k).flatMap lookLineS ∧ Below w3.heap.size w3 wr) (fun _ _ i _ => z - (intOf i).toNat)
  case atStart => exact ⟨0, t0, Nat.zero_le _, rfl, rfl, by rw [HTL.out]; simp, Below.refl _ _⟩
  case round =>
    obtain ⟨k, t, hk, rfl, rfl, ht, hbr⟩ := hrel
    have Ht := Lib.hid ht; clear ht
    have hbelr := fr_call hbel3 hbr
    have hlr := sl_call hl hbelr (Nat.le_refl _)
    have hll := looks_len HZ.out k
    have hts : t.size ≤ 3000000 := by
      have h1 : t.data.toList.length = t.size := by simp
      rw [← h1, Ht.out, List.length_append]; omega
    by_cases hlt : k < z
    · obtain ⟨b, o, x, rfl, hb, hx, hs1, hs2, c0, c1, c2⟩ := hlr.look hlt
      have hsz := looks_sizes HZ.out x (List.mem_of_getElem? hx)
      have hl1 := lookLine_length x hsz.1 hsz.2
      have hl2 : (⟨(lookLineS x).toArray⟩ : ByteArray).size = (lookLineS x).length := by simp [ByteArray.size]
      obtain ⟨p, zz, P, ap⟩ := cat_op t ⟨(lookLineS x).toArray⟩ (by omega)
      have HP := Lib.hid (show p.data.toList = actTextL a ++ (l.take (k + 1)).flatMap lookLineS by
        rw [P.out, Ht.out, flatMap_succ hx]; simp)
      clear hx P hl1 hl2 zz hll
      go_wp2_with fail
      refine (act_lookText x _ (by omega) (by omega)).mono ?_
      rintro e w4 ⟨rfl, hb4⟩
      go_wp2
      go_round
      case rel => exact ⟨k + 1, p, by omega, by go_num, rfl, HP.out, fr_call (fr_alloc hbr _) hb4⟩
      case measure => simp [intOf]; omega
    · have HF := Lib.hid (show t.data.toList = actTextL a ++ l.flatMap lookLineS by rw [Ht.out, List.take_of_length_le (by rw [hl.1]; omega)])
      obtain ⟨w3', c3, hcv, hb3', hsl3⟩ := to_bytes t (by unfold maxLen; omega) wr
      clear hll
      go_wp2_with fail
      refine (blob_Digest _ _ _ _ _ hsl3).mono ?_
      rintro e w4 ⟨rfl, hb4⟩
      go_wp2
      go_ret2
      exact ⟨ret_pair (by rw [keyOfS, if_pos (show keyOfErr a l = 0 from HR.out), HF.out]; rfl) (congrArg (Value.int .i64) HR.out.symm), fr_call (fr_call hbelr hb3') hb4⟩
set_option maxHeartbeats 1000000 in
set_option maxRecDepth 100000 in
theorem ref5_KeyFor (a : ActionV) (A : Option Addr) (n n' : Nat) (B : Option Addr) (m m' : Nat) (C : Option Addr) (p p' : Nat) (D : Option Addr) (q q' : Nat) (E : Option Addr) (z z' : Nat) (l : List Look) (w : World) (hE : Env2 w) (ha : ActIs w a A n B m C p D q) (hl : Sl w (Lt w.heap.size) E z l) (ok : ActOk a ∧ checkLooksS l = 0) :
    Calls Tryz.prog 83 #[actVal a A n n' B m m' C p p' D q q', .slice E z z'] w fun e w' => e = .returned (.string (digestS (actTextL a ++ l.flatMap lookLineS))) ∧ Below w.heap.size w w' := by
  have hm : z ≤ 9223372036854775807 := hl.2.1
  have HZ := Lib.hid ok.2
  have ok := ok.1
  have hv : actVal a A n n' B m m' C p p' D q q' = .agg #[.string a.tool, .slice A n n', .slice B m m', .slice C p p', .slice D q q', .int .i64 a.time] := rfl
  have C2 := Lib.hid (fun w' (hb : Below w.heap.size w w') => ref5_TextOf a A n n' B m m' C p p' D q q' w' (hE.then_ hb) (ha.then_ hb) ok)
  rw [hv] at C2 ⊢
  clear hv
  go_enter Tryz.func83, Tryz.ntmps83
  go_wp2_with fail
  refine (C2.out _ (fr_alloc (fr_refl w) _)).mono ?_
  rintro e w3 ⟨rfl, hb3⟩
  have hbel3 := fr_box (fr_refl w) hb3
  clear hb3
  obtain ⟨t0, ht⟩ : ∃ t : ByteArray, t = ⟨(actTextL a).toArray⟩ := ⟨_, rfl⟩
  have HTL := Lib.hid (show t0.data.toList = actTextL a by rw [ht])
  rw [← ht]
  clear ht
  have htl := actText_length ok
  go_wp2
  go_loopw [5, 6] (fun s i wr => ∃ (k : Nat) (t : ByteArray), k ≤ z ∧ i = .int .i64 k ∧ s = .string t ∧ t.data.toList = actTextL a ++ (l.take k).flatMap lookLineS ∧ Below w3.heap.size w3 wr) (fun _ i _ => z - (intOf i).toNat)
  case atStart => exact ⟨0, t0, Nat.zero_le _, rfl, rfl, by rw [HTL.out]; simp, Below.refl _ _⟩
  case round =>
    obtain ⟨k, t, hk, rfl, rfl, ht, hbr⟩ := hrel
    have Ht := Lib.hid ht; clear ht
    have hbelr := fr_call hbel3 hbr
    have hlr := sl_call hl hbelr (Nat.le_refl _)
    have hll := looks_len HZ.out k
    have hts : t.size ≤ 3000000 := by
      have h1 : t.data.toList.length = t.size := by simp
      rw [← h1, Ht.out, List.length_append]; omega
    by_cases hlt : k < z
    · obtain ⟨b, o, x, rfl, hb, hx, hs1, hs2, c0, c1, c2⟩ := hlr.look hlt
      have hsz := looks_sizes HZ.out x (List.mem_of_getElem? hx)
      have hl1 := lookLine_length x hsz.1 hsz.2
      have hl2 : (⟨(lookLineS x).toArray⟩ : ByteArray).size = (lookLineS x).length := by simp [ByteArray.size]
      obtain ⟨p, zz, P, ap⟩ := cat_op t ⟨(lookLineS x).toArray⟩ (by omega)
      have HP := Lib.hid (show p.data.toList = actTextL a ++ (l.take (k + 1)).flatMap lookLineS by
        rw [P.out, Ht.out, flatMap_succ hx]; simp)
      clear hx P hl1 hl2 zz hll
      go_wp2_with fail
      refine (ref5_lookLine x _ (by omega) (by omega)).mono ?_
      rintro e w4 ⟨rfl, hb4⟩
      go_wp2
      go_round
      case rel => exact ⟨k + 1, p, by omega, by go_num, rfl, HP.out, fr_call hbr hb4⟩
      case measure => simp [intOf]; omega
    · have HF := Lib.hid (show t.data.toList = actTextL a ++ l.flatMap lookLineS by rw [Ht.out, List.take_of_length_le (by rw [hl.1]; omega)])
      obtain ⟨w3', c3, hcv, hb3', hsl3⟩ := to_bytes t (by unfold maxLen; omega) wr
      clear hll
      go_wp2_with fail
      refine (ref1_Digest _ _ _ _ _ hsl3).mono ?_
      rintro e w4 ⟨rfl, hw4⟩
      have hb4 : Below w3'.heap.size w3' w4 := below_eq hw4
      clear hw4
      go_wp2
      go_ret
      exact ⟨by rw [HF.out]; rfl, fr_call (fr_call hbelr hb3') hb4⟩
set_option maxHeartbeats 1000000 in
set_option maxRecDepth 100000 in
theorem ref5_KeyOf (a : ActionV) (A : Option Addr) (n n' : Nat) (B : Option Addr) (m m' : Nat) (C : Option Addr) (p p' : Nat) (D : Option Addr) (q q' : Nat) (E : Option Addr) (z z' : Nat) (l : List Look) (w : World) (hE : Env2 w) (ha : ActIs w a A n B m C p D q) (hl : Sl w (Lt w.heap.size) E z l) :
    Calls Tryz.prog 31 #[actVal a A n n' B m m' C p p' D q q', .slice E z z'] w fun e w' => e = .returned (.tuple #[.string (keyOfS a l), .int .i64 (keyOfErr a l)]) ∧ Below w.heap.size w w' := by
  have hm : z ≤ 9223372036854775807 := hl.2.1
  have hv : actVal a A n n' B m m' C p p' D q q' = .agg #[.string a.tool, .slice A n n', .slice B m m', .slice C p p', .slice D q q', .int .i64 a.time] := rfl
  have C1 := Lib.hid (fun w' (hb : Below w.heap.size w w') => ref5_CheckAction a A n n' B m m' C p p' D q q' w' (hE.then_ hb).toEnv (ha.then_ hb))
  have C2 := Lib.hid (fun w' (hb : Below w.heap.size w w') ok => ref5_KeyFor a A n n' B m m' C p p' D q q' E z z' l w' (hE.then_ hb) (ha.then_ hb) (sl_call hl hb (Nat.le_refl _)) ok)
  have C3 := Lib.hid (fun w' (hb : Below w.heap.size w w') => ref5_CheckLooks E z z' l w' (hE.then_ hb).toEnv (sl_call hl hb (Nat.le_refl _)))
  rw [hv] at C1 C2 ⊢
  clear hv
  go_enter Tryz.func31, Tryz.ntmps31
  go_wp2_with fail
  refine (C1.out _ (fr_alloc (fr_refl w) _)).mono ?_
  rintro e w1 ⟨rfl, hb1⟩
  have hz1 := grew hb1
  obtain ⟨hc1, hf1⟩ := bcell hb1
  have hbel1 := fr_box (fr_refl w) hb1
  clear hb1
  cases h0 : (checkActionS a == 0)
  · have hne : checkActionS a ≠ 0 := by simpa using h0
    have hbn : (checkActionS a != 0) = true := by simpa using h0
    have HE := Lib.hid (show keyOfErr a l = checkActionS a by rw [keyOfErr, if_pos hne])
    have HN := Lib.hid hne; clear hne
    go_wp2
    go_ret2
    exact ⟨ret_pair (by rw [keyOfS, if_neg (by rw [HE.out]; exact HN.out)]; rfl) (congrArg (Value.int .i64) HE.out.symm), hbel1⟩
  have hz : checkActionS a = 0 := by simpa using h0
  have hbn : (checkActionS a != 0) = false := by simpa using h0
  have ok := checkAction_ok hz
  have HE := Lib.hid (show keyOfErr a l = checkLooksS l by rw [keyOfErr, if_neg (by rw [hz]; decide)])
  clear hz
  go_wp2_with fail
  refine (C3.out _ hbel1).mono ?_
  rintro e w2 ⟨rfl, hb2⟩
  obtain ⟨hc2, hf2⟩ := bcell hb2
  have hbel2 := fr_call hbel1 hb2
  have hz2 : w.heap.size < w2.heap.size := Nat.lt_of_lt_of_le hz1 hb2.size
  cases h1 : (checkLooksS l == 0)
  · have hne : checkLooksS l ≠ 0 := by simpa using h1
    have hbn1 : (checkLooksS l != 0) = true := by simpa using h1
    have HN := Lib.hid hne; clear hne
    go_wp2
    go_ret2
    exact ⟨ret_pair (by rw [keyOfS, if_neg (by rw [HE.out]; exact HN.out)]; rfl) (congrArg (Value.int .i64) HE.out.symm), hbel2⟩
  have hz' : checkLooksS l = 0 := by simpa using h1
  have hbn1 : (checkLooksS l != 0) = false := by simpa using h1
  have HZ := Lib.hid hz'
  have HF := Lib.hid (show keyOfErr a l = 0 by rw [HE.out, hz'])
  clear hz'
  go_wp2_with fail
  refine (C2.out _ hbel2 ⟨ok, HZ.out⟩).mono ?_
  rintro e w3 ⟨rfl, hb3⟩
  go_wp2
  go_ret2
  exact ⟨ret_pair (by rw [keyOfS, if_pos HF.out]; rfl) (congrArg (Value.int .i64) HF.out.symm), fr_call hbel2 hb3⟩
set_option maxHeartbeats 1000000 in
set_option maxRecDepth 100000 in
theorem law_keys (a : ActionV) (A : Option Addr) (n n' : Nat) (B : Option Addr) (m m' : Nat) (C : Option Addr) (p p' : Nat) (D : Option Addr) (q q' : Nat) (r : ByteArray) (E : Option Addr) (z z' : Nat) (l : List Look) (w : World) (hr : r.size ≤ maxLen) (hE : Env2 w) (ha : ActIs w a A n B m C p D q) (hl : Sl w (Lt w.heap.size) E z l) :
    Calls Tryz.prog 7 #[actVal a A n n' B m m' C p p' D q q', .string r, .slice E z z'] w fun e w' => e = .returned (.bool true) ∧ Below w.heap.size w w' := by
  have hv : actVal a A n n' B m m' C p p' D q q' = .agg #[.string a.tool, .slice A n n', .slice B m m', .slice C p p', .slice D q q', .int .i64 a.time] := rfl
  have C1 := Lib.hid (fun w' (hb : Below w.heap.size w w') => act_Key a A n n' B m m' C p p' D q q' r w' hr (hE.then_ hb) (ha.then_ hb))
  have C2 := Lib.hid (fun w' (hb : Below w.heap.size w w') => ref5_Key a A n n' B m m' C p p' D q q' r w' hr (hE.then_ hb) (ha.then_ hb))
  have C3 := Lib.hid (fun w' (hb : Below w.heap.size w w') => act_KeyOf a A n n' B m m' C p p' D q q' E z z' l w' (hE.then_ hb) (ha.then_ hb) (sl_call hl hb (Nat.le_refl _)))
  have C4 := Lib.hid (fun w' (hb : Below w.heap.size w w') => ref5_KeyOf a A n n' B m m' C p p' D q q' E z z' l w' (hE.then_ hb) (ha.then_ hb) (sl_call hl hb (Nat.le_refl _)))
  rw [hv] at C1 C2 C3 C4 ⊢
  clear hv
  go_enter Tryz.func7, Tryz.ntmps7
  go_wp2_with fail
  have b0 := fr_alloc (fr_refl w) (.cells #[.string a.tool, .slice A n n', .slice B m m', .slice C p p', .slice D q q', .int .i64 a.time] 39)
  refine (C1.out _ b0).mono ?_
  rintro e w1 ⟨rfl, hb1⟩
  have hz1 := grew hb1
  obtain ⟨hc1, hf1⟩ := bcell hb1
  have b1 := fr_call b0 hb1
  clear hb1 b0
  go_wp2_with fail
  refine (C2.out _ b1).mono ?_
  rintro e w2 ⟨rfl, hb2⟩
  obtain ⟨hc2, hf2⟩ := bcell hb2
  have b2 := fr_call b1 hb2
  have hz2 : w.heap.size < w2.heap.size := Nat.lt_of_lt_of_le hz1 hb2.size
  clear hb2 b1
  go_wp2_with fail
  refine (C3.out _ b2).mono ?_
  rintro e w3 ⟨rfl, hb3⟩
  obtain ⟨hc3, hf3⟩ := bcell hb3
  have b3 := fr_call b2 hb3
  have hz3 : w.heap.size < w3.heap.size := Nat.lt_of_lt_of_le hz2 hb3.size
  clear hb3 b2
  go_wp2_with fail
  refine (C4.out _ b3).mono ?_
  rintro e w4 ⟨rfl, hb4⟩
  have b4 := fr_call b3 hb4
  clear hb4 b3
  go_wp2_with (go_at_call 19; refine (law5_awake _ (hE.toEnv.then_ b4)).mono ?_; rintro e w5 ⟨rfl, hb5⟩)
  go_ret
  exact ⟨rfl, fr_call b4 hb5⟩
end Go.Proofs.Sm

namespace Go.Proofs.YtfdobbclpacijaaGreatDoor.keys
open Go.ChangeShapes Go.WideShapes Go.ChangeAt Go.RowKit Go.Proofs.Sm

noncomputable def laidWorld (os : Os) : World := errWorld (tableWorld os [(4, Rows.laid_unicode_utf8_first), (5, Rows.laid_unicode_utf8_acceptRanges), (1, Rows.laid_internal_strconv_uint64pow10), (6, Rows.laid_math_bits_deBruijn32tab), (7, Rows.laid_math_bits_deBruijn64tab)])
  274 276 [(3, [118, 97, 108, 117, 101, 32, 111, 117, 116, 32, 111, 102, 32, 114, 97, 110, 103, 101]), (2, [105, 110, 118, 97, 108, 105, 100, 32, 115, 121, 110, 116, 97, 120])]
def arg0 : Value := .agg #[.string ⟨#[]⟩, .slice none 0 0, .slice none 0 0, .slice none 0 0, .slice none 0 0, .int .i64 0]
theorem laid_met (os : Os) (args : Array Value) : laidMet Tryz.prog Rows.actionKeysMatchSpecRow.laid ((laidWorld os).forCall (fun _ _ => 0) ⟨#[], args, []⟩).memory :=
  (LaidIn.of_run (l := Rows.actionKeysMatchSpecRow.laid) (List.range 30) 8 (by kernel_rfl) (by kernel_rfl) (by kernel_rfl) (by kernel_rfl)).met
theorem reads (os : Os) {H : Type} (enc : TypeId × Value → H) : ∃ ds places, DataW.whole enc Tryz.prog ((laidWorld os).forCall (fun _ _ => 0) ⟨#[], #[arg0, .string ⟨#[]⟩, .slice none 0 0], []⟩).memory Tryz.f7.params.toList Rows.actionKeysMatchSpecSpec.vars false #[arg0, .string ⟨#[]⟩, .slice none 0 0].toList 8 = some (ds, [], places) :=
  ⟨[.agg [.lit (.string []), .nil, .nil, .nil, .nil, .lit (.int .i64 0)], .lit (.string []), .nil], [], by kernel_rfl⟩

set_option maxRecDepth 100000 in
theorem contract (H : Type) (enc : TypeId × Value → H) (W : World) (base : Nat) (args : Array Value) (ds gs : List (DataW H)) (before : List MemPlace)
    (hval : ∀ (j : Nat) t v, Tryz.f7.params[j]? = some t → args[j]? = some v → Value.okWide Tryz.prog W .any base t v)
    (hW : DataW.Whole enc Tryz.prog Tryz.f7.params.toList Rows.actionKeysMatchSpecSpec.vars false W args.toList ds gs before) (hE : Env2 W) :
    Calls Tryz.prog 7 args W fun e W' => ∃ v, e = .returned v ∧ Rows.actionKeysMatchSpecSpec.post enc Tryz.prog Tryz.f7 false true false false W args v W' := by
  have hW' := hW
  obtain ⟨p, q, hA0, hV, rfl, hfz, hnd⟩ := hW
  have hA : DataW.TrodAll enc Tryz.prog W 0 (fun _ => true) true Tryz.f7.params.toList args.toList ds p := hA0
  rw [Tryz.params7] at hA hval
  obtain ⟨v0, vs0, d0, ds0, p0, q0, hargs, rfl, rfl, h0, r0⟩ := trodAll_cons hA
  obtain ⟨v1, vs1, d1, ds1, p1, q1, rfl, rfl, rfl, h1, r1⟩ := trodAll_cons r0
  obtain ⟨v2, vs2, d2, ds2, p2, q2, rfl, rfl, rfl, h2, r2⟩ := trodAll_cons r1
  obtain ⟨rfl, rfl, rfl⟩ := trodAll_nil r2
  obtain rfl : args = #[v0, v1, v2] := by cases args; simp_all
  obtain ⟨rfl, rfl⟩ := trodVars_none hV
  have k0 := h0
  have k1 := h1
  have k2 := h2
  have lt0 : ∀ x ∈ p0, x.block < W.heap.size := by obtain ⟨m, hm⟩ := k0; exact DataW.trod_lt m _ _ _ hm
  have lt1 : ∀ x ∈ p1, x.block < W.heap.size := by obtain ⟨m, hm⟩ := k1; exact DataW.trod_lt m _ _ _ hm
  have lt2 : ∀ x ∈ p2, x.block < W.heap.size := by obtain ⟨m, hm⟩ := k2; exact DataW.trod_lt m _ _ _ hm
  obtain ⟨cs, rfl, hsz⟩ := okWide_struct Tryz.underlying39 (hval 0 39 v0 rfl rfl)
  obtain ⟨fuel, hf⟩ := h0
  obtain ⟨a, A, n, n', B, m, m', C, k, k', D, r, r', hr, hcs⟩ := action_of hf
  obtain ⟨l⟩ := cs
  obtain rfl : l = _ := hcs
  obtain ⟨s, rfl⟩ := okWide_string Tryz.underlying9 (hval 1 9 v1 rfl rfl)
  have hs : s.size ≤ maxLen := by
    obtain ⟨fuel', hf'⟩ := h1
    obtain ⟨s', e', _, z'⟩ := DataW.trod_string Tryz.underlying9 hf'
    have : s = s' := by simpa [Value.cells] using e'
    rw [this]; exact z'
  obtain ⟨E, z, z', l', rfl, hs2⟩ := arg_slice dec_looks (okWide_slice Tryz.underlying23 (hval 2 23 v2 rfl rfl)) h2
  clear hA0 hf hsz
  refine (law_keys a A n n' B m m' C k k' D r r' s E z z' l' W hs hE hr hs2).mono fun e W' ⟨he, bel⟩ => ?_
  subst he
  exact ⟨_, rfl, _, _, _, [], _, [], hW', trodAll_mk1 (shut_bool Tryz.underlying4 _), (trodAll_cons_mk (Below.trod laidOut (by kernel_rfl) (of_decide_eq_true (by kernel_rfl)) k0 bel lt0) (trodAll_cons_mk (Below.trod laidOut (by kernel_rfl) (of_decide_eq_true (by kernel_rfl)) k1 bel lt1) (trodAll_cons_mk (Below.trod laidOut (by kernel_rfl) (of_decide_eq_true (by kernel_rfl)) k2 bel lt2) trodAll_mk0))), rfl, bel.frame _, fun h => by cases h⟩

set_option maxRecDepth 100000 in
theorem lifted (os : Os) (started : os.Started) (H : Type) (enc : TypeId × Value → H) (F : Stop.Interp) :
    ReturnsInHanded {} Tryz.checked os 7 .any ((OpenSpec.ofChange Rows.actionKeysMatchSpecSpec).preRow enc Tryz.prog Tryz.f7 Rows.actionKeysMatchSpecRow.domain false Rows.actionKeysMatchSpecRow.laid) (((OpenSpec.ofChange Rows.actionKeysMatchSpecSpec).at F).post enc Tryz.prog Tryz.f7 false true false false) := by
  obtain ⟨d, places, hx⟩ := reads os enc
  refine returnsInHanded_of_row (C := Tryz.checked) (s := OpenSpec.ofChange Rows.actionKeysMatchSpecSpec) own started (by kernel_rfl) Tryz.func7
    (witness_row_atRef (enc := enc) (C := Tryz.checked) false (laidWorld os) #[arg0, .string ⟨#[]⟩, .slice none 0 0] rfl (by kernel_rfl) (by kernel_rfl) (by kernel_rfl)
      (OpenSpec.preRow_of_cond 8 hx (by kernel_rfl) (fun k hk => by cases hk) (by kernel_rfl) (laid_met os _))) ?_
  intro W base args ds gs before hval hW _ _ _ hL hS _
  exact contract H enc W base args ds gs before hval hW (env2_of hL hS (by simp [Rows.actionKeysMatchSpecRow, Rows.laid_unicode_utf8_first]) (by simp [Rows.actionKeysMatchSpecRow]) (by simp [Rows.actionKeysMatchSpecRow]))

theorem said : Rows.ActionKeysMatchSpecSaid :=
  OpenClaim.holds_of_cond 7 Tryz.f7 rfl rfl rfl rfl rfl rfl rfl ⟨rfl, rfl, rfl, rfl, rfl⟩ rfl rfl rfl rfl rfl (by kernel_rfl) Tryz.func7 closed
    (of_decide_eq_true (by as_aux_lemma => kernel_rfl)) (by unfold Func.isWrapper; first | (rw [if_pos (by decide +kernel)]; kernel_rfl) | (rw [if_neg (by decide +kernel)]; exact ⟨rfl, rfl⟩))
    (fun os started H enc _ F => by rw [OpenClaim.pre_eq_preRow]; exact lifted os started H enc F)

theorem plain (f : FuncId) (fn : Func) (hf : Tryz.pinned.checked.prog.funcNamed Rows.actionKeysMatchSpecRow.func = some f) (hfn : Tryz.pinned.checked.prog.funcs[f]? = some fn) :
    true = Tryz.pinned.checked.prog.looks [] ∧ ∀ (j : Nat) t, fn.params[j]? = some t → Tryz.pinned.checked.prog.wantsStandIn t = false := by
  obtain rfl : f = 7 := Option.some.inj ((show Tryz.prog.funcNamed Rows.actionKeysMatchSpecRow.func = some 7 by kernel_rfl).symm.trans hf) |>.symm
  obtain rfl : fn = Tryz.f7 := (Option.some.inj (Tryz.func7.symm.trans hfn)).symm
  refine ⟨by kernel_rfl, fun j t ht => ?_⟩
  rw [Tryz.params7] at ht
  have hm : t = 39 ∨ t = 9 ∨ t = 23 := by simpa using Array.mem_of_getElem? ht
  rcases hm with rfl | rfl | rfl
  · exact (show Tryz.prog.wantsStandIn 39 = false by kernel_rfl)
  · exact (show Tryz.prog.wantsStandIn 9 = false by kernel_rfl)
  · exact (show Tryz.prog.wantsStandIn 23 = false by kernel_rfl)

/-- The card. -/
theorem card : Rows.ActionKeysMatchSpecCardSaid :=
  Claim7.holds_tied_plain_at .later [] _ _ _ _ said (fun _ h => by cases h) (by as_aux_lemma => kernel_rfl) (fun _ h => by cases h) actionKeysMatchSpec_row_tie rfl ⟨rfl, rfl⟩ (by as_aux_lemma => kernel_rfl) rfl plain (by as_aux_lemma => kernel_rfl)
end Go.Proofs.YtfdobbclpacijaaGreatDoor.keys
