/- Walks: what is left of what is remembered, by the program; the law of what is remembered. -/
import Derived.Test.YtadokhhgljddkaaGreatDoorH19x14
import Derived.Test.YtadokhhgljddkaaGreatDoorH19x13
import Derived.Lib.ConvBytes
import Derived.Laws.IdiomCopy
namespace Go.Proofs.Sm
open Go.RowKit

set_option maxHeartbeats 4000000 in
set_option maxRecDepth 100000 in
theorem ref5_TextOf (a : ActionV) (A : Option Addr) (n n' : Nat) (B : Option Addr) (m m' : Nat) (C : Option Addr) (p p' : Nat) (D : Option Addr) (q q' : Nat) (w : World) (hE : Env2 w) (ha : ActIs w a A n B m C p D q) (ok : ActOk a) :
    Calls Tryz.prog 76 #[actVal a A n n' B m m' C p p' D q q'] w fun e w' => e = .returned (.string ⟨(actTextL a).toArray⟩) ∧ Below w.heap.size w w' := by
  unfold actVal
  have hm1 : n ≤ 9223372036854775807 := ha.commands.2.1
  have hm2 : m ≤ 9223372036854775807 := ha.vars.2.1
  have hm3 : p ≤ 9223372036854775807 := ha.outputs.2.1
  have hm4 : q ≤ 9223372036854775807 := ha.needs.2.1
  have q1 : (⟨#[116, 111, 111, 108, 32]⟩ : ByteArray).size = 5 := rfl
  have q4 : (⟨#[10]⟩ : ByteArray).size = 1 := rfl
  have q5 := ok.tool
  obtain ⟨p1, z1, P1, a1⟩ := cat_op ⟨#[116, 111, 111, 108, 32]⟩ a.tool (by omega)
  obtain ⟨p2, z2, P2, a2⟩ := cat_op p1 ⟨#[10]⟩ (by omega)
  have HT := Lib.hid (show p2.data.toList = toolL a by rw [P2.out, P1.out, toolL])
  clear q1 q4 z1 z2 P1 P2
  go_enter Tryz.func76, Tryz.ntmps76
  go_wp2
  clear a1 a2
  have hX := heap_alloc_new w (.cells #[.string a.tool, .slice A n n', .slice B m m', .slice C p p', .slice D q q', .int .i64 a.time] 49)
  have hEn := hE.alloc (.cells #[.string a.tool, .slice A n n', .slice B m m', .slice C p p', .slice D q q', .int .i64 a.time] 49)
  have hrn := ha.then_ (fr_alloc (fr_refl w) (.cells #[.string a.tool, .slice A n n', .slice B m m', .slice C p p', .slice D q q', .int .i64 a.time] 49))
  have hbel := fr_alloc (fr_refl w) (.cells #[.string a.tool, .slice A n n', .slice B m m', .slice C p p', .slice D q q', .int .i64 a.time] 49)
  have hz : w.heap.size < (w.alloc (.cells #[.string a.tool, .slice A n n', .slice B m m', .slice C p p', .slice D q q', .int .i64 a.time] 49)).heap.size := by simp
  generalize (w.alloc (.cells #[.string a.tool, .slice A n n', .slice B m m', .slice C p p', .slice D q q', .int .i64 a.time] 49)) = W at *
  have HX := Lib.hid hX; clear hX
  have HEn := Lib.hid (show ∀ w', Below W.heap.size W w' → Env2 w' from fun w' h => hEn.then_ h)
  have htm := ok.time
  have htn : InInt a.time := ha.time
  have hlen2 := toolL_length ok
  go_loopw [3, 4] (fun s i wr => ∃ (k : Nat) (t : ByteArray), k ≤ n ∧ i = .int .i64 k ∧ s = .string t ∧ t.data.toList = toolL a ++ (a.commands.take k).flatMap cmdL ∧ Below W.heap.size W wr) (fun _ i _ => n - (intOf i).toNat)
  case atStart => exact ⟨0, p2, Nat.zero_le _, rfl, rfl, by rw [HT.out]; simp, Below.refl _ _⟩
  case round =>
    skip
    obtain ⟨k, t, hk, rfl, rfl, ht, hbr⟩ := hrel
    have Ht := Lib.hid ht; clear ht
    have hcell : wr.cell? ⟨w.heap.size, 1, none⟩ = some (.slice A n n') := by rw [World.cell?, (hbr.block _ hz).trans HX.out]; rfl
    have hlen : (toolL a ++ (a.commands.take k).flatMap cmdL).length ≤ 1000000 := by have := len_cons hlen2 (cmds_length ok k); omega
    have hts : t.size ≤ 1000000 := by
      have h1 : t.data.toList.length = t.size := by simp
      rw [← h1, Ht.out]; exact hlen
    clear hlen
    have q4 : (⟨#[10]⟩ : ByteArray).size = 1 := rfl
    have q2 : (⟨#[32]⟩ : ByteArray).size = 1 := rfl
    by_cases hlt : k < n
    · obtain ⟨b, o, x, A', l', c', rfl, hb, hx, hlc, hcm, hsl', c0⟩ := (hrn.commands.keep (keep_lt hbr)).row hlt
      have hok := ok.words x (List.mem_of_getElem? hx)
      have hjl := cmdL_length hok
      have HX2 := Lib.hid hx; clear hx
      have hl1 := hsl'.1
      obtain ⟨j, hj⟩ : ∃ j : ByteArray, j = ⟨(joinS x).toArray⟩ := ⟨_, rfl⟩
      have hjs : j.size = (joinS x).length := by rw [hj]; simp [ByteArray.size]
      have HJL := Lib.hid (show j.data.toList = joinS x by rw [hj])
      have HJ := Lib.hid (hj ▸ join_any A' l' c' x wr (hsl'.more (lt_mono hbr.size)) hlc (by omega) (by omega) : Calls Tryz.prog 112 #[.slice A' l' c', .string ⟨#[32]⟩] wr fun e w' => e = .returned (.string j) ∧ Below wr.heap.size wr w')
      clear hj
      have q1 : (⟨#[100, 111, 32]⟩ : ByteArray).size = 3 := rfl
      obtain ⟨p1, z1, P1, a1⟩ := cat_op ⟨#[100, 111, 32]⟩ j (by omega)
      obtain ⟨p2, z2, P2, a2⟩ := cat_op p1 ⟨#[10]⟩ (by omega)
      obtain ⟨p3, z3, P3, a3⟩ := cat_op t p2 (by omega)
      have HP := Lib.hid (show p3.data.toList = toolL a ++ (a.commands.take (k + 1)).flatMap cmdL by
        rw [P3.out, P2.out, P1.out, HJL.out, Ht.out, flatMap_succ HX2.out]; simp [cmdL])
      clear q1 q2 q4 z1 z2 z3 P1 P2 P3 hl1 hjl hok
      go_wp2_with fail
      refine HJ.out.mono ?_
      rintro e w2 ⟨rfl, hb2⟩
      go_wp2
      go_round
      case rel => exact ⟨k + 1, p3, by omega, by go_num, rfl, HP.out, fr_call hbr hb2⟩
      case measure => simp [intOf]; omega
    · have HF := Lib.hid (show a.commands.take k = a.commands from List.take_of_length_le (by rw [hrn.commands.1]; omega))
      have Ht2 := Lib.hid (show t.data.toList = toolL a ++ a.commands.flatMap cmdL by rw [Ht.out, HF.out])
      clear Ht
      have hg1 : toolL a ++ a.commands.flatMap cmdL = toolL a ++ a.commands.flatMap cmdL := rfl
      generalize hG1 : toolL a ++ a.commands.flatMap cmdL = L1 at Ht2
      have HG1 := Lib.hid hG1; clear hG1 hg1
      have hlen3 : L1.length ≤ 1000000 := by
        have h1 : t.data.toList.length = t.size := by simp
        rw [← Ht2.out, h1]; exact hts
      clear hlen2
      have hlen2 := hlen3
      clear hlen3 q2 q4
      have HLL := Lib.hid (show L1 ++ a.vars.flatMap varL ++ a.outputs.flatMap outL ++ a.needs.flatMap needL ++ timeL a = actTextL a by rw [← HG1.out]; rfl)
      go_wp2
      clear hcell
      go_loopw [3, 5] (fun s i wr => ∃ (k : Nat) (t : ByteArray), k ≤ m ∧ i = .int .i64 k ∧ s = .string t ∧ t.data.toList = L1 ++ (a.vars.take k).flatMap varL ∧ Below W.heap.size W wr) (fun _ i _ => m - (intOf i).toNat)
      case atStart => exact ⟨0, t, Nat.zero_le _, rfl, rfl, by rw [Ht2.out]; simp, hbr⟩
      case round =>
        clear hbr
        obtain ⟨k, t, hk, rfl, rfl, ht, hbr⟩ := hrel
        have Ht := Lib.hid ht; clear ht
        have hcell : wr.cell? ⟨w.heap.size, 2, none⟩ = some (.slice B m m') := by rw [World.cell?, (hbr.block _ hz).trans HX.out]; rfl
        have hlen : (L1 ++ (a.vars.take k).flatMap varL).length ≤ 1100000 := by have := len_cons hlen2 (vars_length ok k); omega
        have hts : t.size ≤ 1100000 := by
          have h1 : t.data.toList.length = t.size := by simp
          rw [← h1, Ht.out]; exact hlen
        clear hlen
        have q4 : (⟨#[10]⟩ : ByteArray).size = 1 := rfl
        have q2 : (⟨#[32]⟩ : ByteArray).size = 1 := rfl
        by_cases hlt : k < m
        · obtain ⟨b, o, x, rfl, hb, hx, hs1, hs2, c0, c1⟩ := (hrn.vars.keep (keep_lt hbr)).var hlt
          have hok := ok.var x (List.mem_of_getElem? hx)
          have HX2 := Lib.hid hx; clear hx
          have q1 : (⟨#[118, 97, 114, 32]⟩ : ByteArray).size = 4 := rfl
          obtain ⟨p1, z1, P1, a1⟩ := cat_op ⟨#[118, 97, 114, 32]⟩ x.name (by omega)
          obtain ⟨p2, z2, P2, a2⟩ := cat_op p1 ⟨#[32]⟩ (by omega)
          obtain ⟨p3, z3, P3, a3⟩ := cat_op p2 x.value (by omega)
          obtain ⟨p4, z4, P4, a4⟩ := cat_op p3 ⟨#[10]⟩ (by omega)
          obtain ⟨p5, z5, P5, a5⟩ := cat_op t p4 (by omega)
          have HP := Lib.hid (show p5.data.toList = L1 ++ (a.vars.take (k + 1)).flatMap varL by
            rw [P5.out, P4.out, P3.out, P2.out, P1.out, Ht.out, flatMap_succ HX2.out]; simp [varL])
          clear q1 q2 q4 z1 z2 z3 z4 z5 P1 P2 P3 P4 P5 hok
          go_wp2
          go_quiet (fail)
          go_wp2
          go_round
          case rel => exact ⟨k + 1, p5, by omega, by go_num, rfl, HP.out, below_drewN hbr _⟩
          case measure => simp [intOf]; omega
        · have HF := Lib.hid (show a.vars.take k = a.vars from List.take_of_length_le (by rw [hrn.vars.1]; omega))
          have Ht2 := Lib.hid (show t.data.toList = L1 ++ a.vars.flatMap varL by rw [Ht.out, HF.out])
          clear Ht
          generalize L1 ++ a.vars.flatMap varL = L2 at *
          have hlen3 : L2.length ≤ 1100000 := by
            have h1 : t.data.toList.length = t.size := by simp
            rw [← Ht2.out, h1]; exact hts
          clear hlen2
          have hlen2 := hlen3
          clear hlen3 q2 q4
          go_wp2
          clear hcell
          go_loopw [3, 6] (fun s i wr => ∃ (k : Nat) (t : ByteArray), k ≤ p ∧ i = .int .i64 k ∧ s = .string t ∧ t.data.toList = L2 ++ (a.outputs.take k).flatMap outL ∧ Below W.heap.size W wr) (fun _ i _ => p - (intOf i).toNat)
          case atStart => exact ⟨0, t, Nat.zero_le _, rfl, rfl, by rw [Ht2.out]; simp, hbr⟩
          case round =>
            clear hbr
            obtain ⟨k, t, hk, rfl, rfl, ht, hbr⟩ := hrel
            have Ht := Lib.hid ht; clear ht
            have hcell : wr.cell? ⟨w.heap.size, 3, none⟩ = some (.slice C p p') := by rw [World.cell?, (hbr.block _ hz).trans HX.out]; rfl
            have hlen : (L2 ++ (a.outputs.take k).flatMap outL).length ≤ 1200000 := by have := len_cons hlen2 (outs_length ok k); omega
            have hts : t.size ≤ 1200000 := by
              have h1 : t.data.toList.length = t.size := by simp
              rw [← h1, Ht.out]; exact hlen
            clear hlen
            have q4 : (⟨#[10]⟩ : ByteArray).size = 1 := rfl
            have q2 : (⟨#[32]⟩ : ByteArray).size = 1 := rfl
            by_cases hlt : k < p
            · obtain ⟨b, o, x, rfl, hb, hx, hxs, c0⟩ := (hrn.outputs.keep (keep_lt hbr)).str hlt
              have hok := ok.output x (List.mem_of_getElem? hx)
              have HX2 := Lib.hid hx; clear hx
              have q1 : (⟨#[111, 117, 116, 32]⟩ : ByteArray).size = 4 := rfl
              obtain ⟨p1, z1, P1, a1⟩ := cat_op ⟨#[111, 117, 116, 32]⟩ x (by omega)
              obtain ⟨p2, z2, P2, a2⟩ := cat_op p1 ⟨#[10]⟩ (by omega)
              obtain ⟨p3, z3, P3, a3⟩ := cat_op t p2 (by omega)
              have HP := Lib.hid (show p3.data.toList = L2 ++ (a.outputs.take (k + 1)).flatMap outL by
                rw [P3.out, P2.out, P1.out, Ht.out, flatMap_succ HX2.out]; simp [outL])
              clear q1 q2 q4 z1 z2 z3 P1 P2 P3 hok
              go_wp2
              go_round
              case rel => exact ⟨k + 1, p3, by omega, by go_num, rfl, HP.out, hbr⟩
              case measure => simp [intOf]; omega
            · have HF := Lib.hid (show a.outputs.take k = a.outputs from List.take_of_length_le (by rw [hrn.outputs.1]; omega))
              have Ht2 := Lib.hid (show t.data.toList = L2 ++ a.outputs.flatMap outL by rw [Ht.out, HF.out])
              clear Ht
              generalize L2 ++ a.outputs.flatMap outL = L3 at *
              have hlen3 : L3.length ≤ 1200000 := by
                have h1 : t.data.toList.length = t.size := by simp
                rw [← Ht2.out, h1]; exact hts
              clear hlen2
              have hlen2 := hlen3
              clear hlen3 q2 q4
              go_wp2
              clear hcell
              go_loopw [3, 7] (fun s i wr => ∃ (k : Nat) (t : ByteArray), k ≤ q ∧ i = .int .i64 k ∧ s = .string t ∧ t.data.toList = L3 ++ (a.needs.take k).flatMap needL ∧ Below W.heap.size W wr) (fun _ i _ => q - (intOf i).toNat)
              case atStart => exact ⟨0, t, Nat.zero_le _, rfl, rfl, by rw [Ht2.out]; simp, hbr⟩
              case round =>
                clear hbr
                obtain ⟨k, t, hk, rfl, rfl, ht, hbr⟩ := hrel
                have Ht := Lib.hid ht; clear ht
                have hcell : wr.cell? ⟨w.heap.size, 4, none⟩ = some (.slice D q q') := by rw [World.cell?, (hbr.block _ hz).trans HX.out]; rfl
                have hlen : (L3 ++ (a.needs.take k).flatMap needL).length ≤ 1300000 := by have := len_cons hlen2 (needs_length ok k); omega
                have hts : t.size ≤ 1300000 := by
                  have h1 : t.data.toList.length = t.size := by simp
                  rw [← h1, Ht.out]; exact hlen
                clear hlen
                have q4 : (⟨#[10]⟩ : ByteArray).size = 1 := rfl
                have q2 : (⟨#[32]⟩ : ByteArray).size = 1 := rfl
                by_cases hlt : k < q
                · obtain ⟨b, o, x, rfl, hb, hx, hs1, hs2, c0, c1⟩ := (hrn.needs.keep (keep_lt hbr)).var hlt
                  have hok := ok.need x (List.mem_of_getElem? hx)
                  have HX2 := Lib.hid hx; clear hx
                  have q1 : (⟨#[110, 101, 101, 100, 32]⟩ : ByteArray).size = 5 := rfl
                  obtain ⟨p1, z1, P1, a1⟩ := cat_op ⟨#[110, 101, 101, 100, 32]⟩ x.name (by omega)
                  obtain ⟨p2, z2, P2, a2⟩ := cat_op p1 ⟨#[32]⟩ (by omega)
                  obtain ⟨p3, z3, P3, a3⟩ := cat_op p2 x.value (by omega)
                  obtain ⟨p4, z4, P4, a4⟩ := cat_op p3 ⟨#[10]⟩ (by omega)
                  obtain ⟨p5, z5, P5, a5⟩ := cat_op t p4 (by omega)
                  have HP := Lib.hid (show p5.data.toList = L3 ++ (a.needs.take (k + 1)).flatMap needL by
                    rw [P5.out, P4.out, P3.out, P2.out, P1.out, Ht.out, flatMap_succ HX2.out]; simp [needL])
                  clear q1 q2 q4 z1 z2 z3 z4 z5 P1 P2 P3 P4 P5 hok
                  go_wp2
                  go_quiet (fail)
                  go_wp2
                  go_round
                  case rel => exact ⟨k + 1, p5, by omega, by go_num, rfl, HP.out, below_drewN hbr _⟩
                  case measure => simp [intOf]; omega
                · have HF := Lib.hid (show a.needs.take k = a.needs from List.take_of_length_le (by rw [hrn.needs.1]; omega))
                  have Ht2 := Lib.hid (show t.data.toList = L3 ++ a.needs.flatMap needL by rw [Ht.out, HF.out])
                  clear Ht
                  generalize L3 ++ a.needs.flatMap needL = L4 at *
                  have hlen3 : L4.length ≤ 1300000 := by
                    have h1 : t.data.toList.length = t.size := by simp
                    rw [← Ht2.out, h1]; exact hts
                  clear hlen2
                  have hlen2 := hlen3
                  clear hlen3 q2 q4
                  have hcell5 : wr.cell? ⟨w.heap.size, 5, none⟩ = some (.int .i64 a.time) := by rw [World.cell?, (hbr.block _ hz).trans HX.out]; rfl
                  obtain ⟨s1, k1, E1, C1⟩ := itoa_op a.time htn
                  have HEr := HEn.out _ hbr
                  have q1 : (⟨#[116, 105, 109, 101, 32]⟩ : ByteArray).size = 5 := rfl
                  have q4 : (⟨#[10]⟩ : ByteArray).size = 1 := rfl
                  obtain ⟨p1, z1, P1, a1⟩ := cat_op t ⟨#[116, 105, 109, 101, 32]⟩ (by omega)
                  obtain ⟨p2, z2, P2, a2⟩ := cat_op p1 s1 (by omega)
                  obtain ⟨p3, z3, P3, a3⟩ := cat_op p2 ⟨#[10]⟩ (by omega)
                  have HP := Lib.hid (show p3.data.toList = actTextL a by
                    rw [P3.out, P2.out, P1.out, E1.out, Ht2.out, ← HLL.out]; simp [timeL])
                  clear q1 q4 z1 z2 z3 P1 P2 P3
                  go_wp2_with fail
                  refine (C1.out _ HEr).mono ?_
                  rintro e w2 ⟨rfl, hb2⟩
                  go_wp2
                  go_ret
                  exact ⟨ret_str HP.out, hbel.trans ((fr_call hbr hb2).mono (Nat.le_of_lt hz))⟩
end Go.Proofs.Sm

namespace Go.Proofs.Sm
open Go.RowKit

/-- the text of an action; none when it is wrong -/
def actTextS (a : ActionV) : ByteArray := if checkActionS a = 0 then ⟨(actTextL a).toArray⟩ else ⟨#[]⟩
theorem actText_length {a : ActionV} (ok : ActOk a) : (actTextL a).length ≤ 2000000 := by
  have h1 := toolL_length ok
  have h2 := cmds_length ok a.commands.length
  have h3 := vars_length ok a.vars.length
  have h4 := outs_length ok a.outputs.length
  have h5 := needs_length ok a.needs.length
  rw [List.take_length] at h2 h3 h4 h5
  have h6 := Lib.itoa_length_le a.time (by have := ok.time; omega) (by have := ok.time; omega)
  simp only [actTextL, timeL, List.length_append, List.length_cons, List.length_nil] at h1 h2 h3 h4 h5 ⊢
  omega
end Go.Proofs.Sm

namespace Go.Proofs.Sm
open Go.RowKit

/-- bytes of a string, in a row of their own -/
theorem to_bytes (s : ByteArray) (hs : s.size ≤ maxLen) (w : World) : ∃ w2 c, (convert 9 112 (.string s)).run Tryz.prog w = .ok (.slice (some ⟨w.heap.size, 0, none⟩) s.size c) w2 ∧ Below w.heap.size w w2 ∧ Sl w2 (Lt w2.heap.size) (some ⟨w.heap.size, 0, none⟩) s.size s.data.toList := by
  refine ⟨Lib.bytesWorld w 5 s, _, Lib.run_convert_string_bytes (P := Tryz.prog) w 9 112 5 s Tryz.underlying9 Tryz.underlying112 Tryz.underlying5, ⟨rfl, rfl, rfl, by rw [Lib.bytesWorld_size]; omega, fun k hk => Lib.bytesWorld_at_old w _ s k hk⟩, by simp, hs, fun _ => ⟨_, _, rfl, by show _ < _; rw [Lib.bytesWorld_size]; omega, fun i x hx => ⟨[.int .u8 x.toNat], rfl, fun j v hv => ?_⟩⟩⟩
  have hj : j = 0 ∧ v = .int .u8 x.toNat := by
    cases j with
    | zero => simp at hv; exact ⟨rfl, hv.symm⟩
    | succ j => simp at hv
  obtain ⟨rfl, rfl⟩ := hj
  have hi : i < s.data.toList.length := (List.getElem?_eq_some_iff.1 hx).1
  have h := Lib.bytesWorld_cell w 5 s i (by simpa using hi)
  simp only [Rep.sz, Nat.mul_one, Nat.add_zero, Nat.zero_add]
  rw [h, List.getD_eq_getElem?_getD, hx]; rfl
def keyErr (a : ActionV) (r : ByteArray) : Int := if checkActionS a ≠ 0 then checkActionS a else if isDigestS r = false then 3 else 0
def keyS (a : ActionV) (r : ByteArray) : ByteArray := if keyErr a r = 0 then digestS (actTextL a ++ [114, 111, 111, 116, 32] ++ r.data.toList ++ [10]) else ⟨#[]⟩
def keyOfErr (a : ActionV) (l : List Look) : Int := if checkActionS a ≠ 0 then checkActionS a else checkLooksS l
def keyOfS (a : ActionV) (l : List Look) : ByteArray := if keyOfErr a l = 0 then digestS (actTextL a ++ l.flatMap lookLineS) else ⟨#[]⟩
theorem looks_len {l : List Look} (h : checkLooksS l = 0) (k : Nat) : ((l.take k).flatMap lookLineS).length ≤ 920000 := by
  have h1 : l.length ≤ 4000 := by
    unfold checkLooksS at h
    split at h <;> omega
  have h2 := flatMap_take (f := lookLineS) (m := 230) h1 (fun x hx => by
    have := looks_sizes h x hx
    exact lookLine_length x this.1 this.2) k
  omega
end Go.Proofs.Sm

namespace Go.Proofs.Sm
open Go.RowKit

set_option maxHeartbeats 1000000 in
set_option maxRecDepth 100000 in
theorem act_TextDigest (a : ActionV) (A : Option Addr) (n n' : Nat) (B : Option Addr) (m m' : Nat) (C : Option Addr) (p p' : Nat) (D : Option Addr) (q q' : Nat) (w : World) (hE : Env2 w) (ha : ActIs w a A n B m C p D q) (ok : ActOk a) :
    Calls Tryz.prog 38 #[actVal a A n n' B m m' C p p' D q q'] w fun e w' => e = .returned (.string (digestS (actTextL a))) ∧ Below w.heap.size w w' := by
  have C2 := Lib.hid (fun w' (hb : Below w.heap.size w w') => act_text a A n n' B m m' C p p' D q q' w' (hE.then_ hb) (ha.then_ hb) ok)
  have hv : actVal a A n n' B m m' C p p' D q q' = .agg #[.string a.tool, .slice A n n', .slice B m m', .slice C p p', .slice D q q', .int .i64 a.time] := rfl
  rw [hv] at C2 ⊢
  clear hv
  have htl := actText_length ok
  go_enter Tryz.func38, Tryz.ntmps38
  go_wp2_with fail
  refine (C2.out _ (fr_alloc (fr_refl w) _)).mono ?_
  rintro e w3 ⟨rfl, hb3⟩
  have hbel3 := fr_box (fr_refl w) hb3
  obtain ⟨t, ht⟩ : ∃ t : ByteArray, t = ⟨(actTextL a).toArray⟩ := ⟨_, rfl⟩
  have htz : t.size = (actTextL a).length := by rw [ht]; simp [ByteArray.size]
  have HTL := Lib.hid (show t.data.toList = actTextL a by rw [ht])
  rw [← ht]
  clear ht
  obtain ⟨w3', c3, hcv, hb3', hsl3⟩ := to_bytes t (by unfold maxLen; omega) w3
  clear htl htz
  go_wp2_with fail
  refine (blob_Digest _ _ _ _ _ hsl3).mono ?_
  rintro e w4 ⟨rfl, hb4⟩
  go_wp2
  go_ret
  exact ⟨by rw [← HTL.out]; rfl, fr_call (fr_call hbel3 hb3') hb4⟩
set_option maxHeartbeats 1000000 in
set_option maxRecDepth 100000 in
theorem ref6_ActionKey (a : ActionV) (A : Option Addr) (n n' : Nat) (B : Option Addr) (m m' : Nat) (C : Option Addr) (p p' : Nat) (D : Option Addr) (q q' : Nat) (w : World) (hE : Env2 w) (ha : ActIs w a A n B m C p D q) (ok : ActOk a) :
    Calls Tryz.prog 40 #[actVal a A n n' B m m' C p p' D q q'] w fun e w' => e = .returned (.string (digestS (actTextL a))) ∧ Below w.heap.size w w' := by
  have C2 := Lib.hid (fun w' (hb : Below w.heap.size w w') => ref5_TextOf a A n n' B m m' C p p' D q q' w' (hE.then_ hb) (ha.then_ hb) ok)
  have hv : actVal a A n n' B m m' C p p' D q q' = .agg #[.string a.tool, .slice A n n', .slice B m m', .slice C p p', .slice D q q', .int .i64 a.time] := rfl
  rw [hv] at C2 ⊢
  clear hv
  have htl := actText_length ok
  go_enter Tryz.func40, Tryz.ntmps40
  go_wp2_with fail
  refine (C2.out _ (fr_alloc (fr_refl w) _)).mono ?_
  rintro e w3 ⟨rfl, hb3⟩
  have hbel3 := fr_box (fr_refl w) hb3
  obtain ⟨t, ht⟩ : ∃ t : ByteArray, t = ⟨(actTextL a).toArray⟩ := ⟨_, rfl⟩
  have htz : t.size = (actTextL a).length := by rw [ht]; simp [ByteArray.size]
  have HTL := Lib.hid (show t.data.toList = actTextL a by rw [ht])
  rw [← ht]
  clear ht
  obtain ⟨w3', c3, hcv, hb3', hsl3⟩ := to_bytes t (by unfold maxLen; omega) w3
  clear htl htz
  go_wp2_with fail
  refine (ref1_Digest _ _ _ _ _ hsl3).mono ?_
  rintro e w4 ⟨rfl, rfl⟩
  go_wp2
  go_ret
  exact ⟨by rw [← HTL.out]; rfl, fr_call hbel3 hb3'⟩
theorem rule_actOk {l : List RuleV} (h : checkRulesS l = 0) {k : Nat} {x : RuleV} (hx : l[k]? = some x) : ActOk x.action := checkAction_ok (checkRule_parts ((rules_ok h).1.each x (List.mem_of_getElem? hx))).2.1
def PrunedPost (l : List RuleV) (ms : List MemoryV) (w : World) (e : Ending) (w' : World) : Prop :=
  ∃ v, e = .returned (.tuple #[v, .int .i64 (prunedErr l ms)]) ∧ (prunedErr l ms ≠ 0 → v = .slice none 0 0) ∧
    (prunedErr l ms = 0 → ∃ A n c, v = .slice A n c ∧ n ≤ c ∧ c ≤ maxLen ∧ Sl w' (Lt w'.heap.size) A n (prunedS l ms)) ∧ Below w.heap.size w w'
theorem PrunedPost.bad {l : List RuleV} {ms : List MemoryV} {w w' : World} {f : Int} (hf : prunedErr l ms = f) (h0 : f ≠ 0) (hb : Below w.heap.size w w') : PrunedPost l ms w (.returned (.tuple #[.slice none 0 0, .int .i64 f])) w' :=
  ⟨_, by rw [hf], fun _ => rfl, fun h => absurd (hf.symm.trans h) h0, hb⟩
theorem PrunedPost.good {l : List RuleV} {ms : List MemoryV} {w w' : World} {A : Option Addr} {n c : Nat} (hf : prunedErr l ms = 0) (hn : n ≤ c) (hc : c ≤ maxLen) (hs : Sl w' (Lt w'.heap.size) A n (prunedS l ms)) (hb : Below w.heap.size w w') : PrunedPost l ms w (.returned (.tuple #[.slice A n c, .int .i64 0])) w' :=
  ⟨_, by rw [hf], fun h => absurd hf h, fun _ => ⟨A, n, c, rfl, hn, hc, hs⟩, hb⟩
set_option maxHeartbeats 4000000 in
set_option maxRecDepth 100000 in
theorem ref6_Pruned (A B : Option Addr) (n c m d : Nat) (l : List RuleV) (ms : List MemoryV) (w : World) (hE : Env2 w) (hsl : Sl w (Lt w.heap.size) A n l) (hsl2 : Sl w (Lt w.heap.size) B m ms) :
    Calls Tryz.prog 12 #[.slice A n c, .slice B m d] w (PrunedPost l ms w) := by
  have hm : n ≤ 9223372036854775807 := hsl.2.1
  have hm2 : m ≤ 9223372036854775807 := hsl2.2.1
  have HL := Lib.hid hsl.1
  have HL2 := Lib.hid hsl2.1
  obtain ⟨i0, hi0, hz0, hz1, hz2⟩ := info_parts cl_memory_info
  go_enter Tryz.func12, Tryz.ntmps12
  go_wp2_with fail
  refine (ref6_CheckRules A n c l w hE.toEnv hsl).mono ?_
  rintro e w1 ⟨rfl, hb1⟩
  cases h0 : (checkRulesS l == 0)
  · have hne : checkRulesS l ≠ 0 := by simpa using h0
    have hbn : (checkRulesS l != 0) = true := by simpa using h0
    have HV := Lib.hid (pruned_a (m := ms) hne)
    have HN := Lib.hid hne
    clear hne
    go_wp2
    go_ret2
    exact PrunedPost.bad HV.out HN.out hb1
  have hza : checkRulesS l = 0 := by simpa using h0
  have HZ := Lib.hid hza
  rw [hza]
  clear hza h0
  have HPR := Lib.hid (pruned_rest (m := ms) HZ.out)
  go_wp2_with fail
  refine (ref6_CheckMemory B m d ms w1 (hE.then_ hb1).toEnv (sl_call hsl2 hb1 (Nat.le_refl _))).mono ?_
  rintro e w2 ⟨rfl, hb2⟩
  have hb02 := fr_call hb1 hb2
  clear hb1 hb2
  cases h0 : (checkMemoryS ms == 0)
  · have hne : checkMemoryS ms ≠ 0 := by simpa using h0
    have hbn : (checkMemoryS ms != 0) = true := by simpa using h0
    have HN := Lib.hid hne
    clear hne
    go_wp2
    go_ret2
    exact PrunedPost.bad HPR.out HN.out hb02
  have hzb : checkMemoryS ms = 0 := by simpa using h0
  have HZ2 := Lib.hid hzb
  have HPZ := Lib.hid (HPR.out.trans hzb)
  rw [hzb]
  clear hzb h0
  have hm5 : m ≤ 500 := by have := (memory_parts HZ2.out).1; have := HL2.out; omega
  go_wp2
  go_loopw [8, 9] (fun v iv wx => ∃ k : Nat, k ≤ m ∧ iv = .int .i64 k ∧ RowK wx w.heap.size 68 (Lt w.heap.size) v ((ms.take k).filter (keepM l)) ∧ Below w.heap.size w wx) (fun _ iv _ => m - (intOf iv).toNat)
  case atStart => exact ⟨0, Nat.zero_le _, rfl, RowK.nil.more (fun _ h => h.elim) (fun k hk => Nat.lt_of_lt_of_le hk hb02.size), hb02⟩
  case round =>
    clear hb02
    obtain ⟨k, hk, rfl, hrow, hbel⟩ := hrel
    have hzr := hbel.size
    by_cases hlt : k < m
    · have hkI : (k : Int) < (m : Int) := by omega
      obtain ⟨b2, o2, x, rfl, hbb, hx, A1, n1, c1, A2, n2, c2, A3, n3, c3, z, hcs, ss, p0, p1, p2, p3, p4, p5, p6, p7⟩ := (hsl2.keep (keep_lt hbel)).memory hlt
      have HX := Lib.hid hx; clear hx
      have hxr : Rep.rep wr (Lt w.heap.size) x (memCells x A1 n1 c1 A2 n2 c2 A3 n3 c3) := ⟨A1, n1, c1, A2, n2, c2, A3, n3, c3, rfl, z, hcs, ss⟩
      have HXr := Lib.hid hxr
      have HF := Lib.hid (filter_take (p := keepM l) HX.out)
      have hbb2 : b2 < wr.heap.size := Nat.lt_of_lt_of_le hbb hzr
      clear hxr ss z hcs
      go_wp2_with fail
      refine (ref6_find A n c l x.name wr _ (hsl.keep (keep_lt hbel))).mono ?_
      rintro e w4 ⟨rfl, rfl⟩
      cases hj : idxName l x.name with
      | none =>
        have HN := Lib.hid (show (ms.take (k + 1)).filter (keepM l) = (ms.take k).filter (keepM l) by rw [HF.out, keep_none hj]; simp)
        have HR := Lib.hid hrow
        rw [numOr_none]
        clear hj hrow
        go_wp2
        go_quiet (fail)
        go_wp2
        go_roundw
        case rel => exact ⟨k + 1, by omega, by go_num, by rw [HN.out]; exact HR.out.call (below_drewN (Below.refl _ wr) _), below_drewN hbel _⟩
        case measure => simp [intOf]; omega
      | some j =>
        have hjn : j < n := by have := (idxName_some hj).1; rwa [HL.out] at this
        have hjI : (j : Int) < (n : Int) := by omega
        have hj0 : (0 : Int) ≤ (j : Int) := Int.natCast_nonneg _
        obtain ⟨b, o, r, rfl, hbl, hr, R1, r1, e1, R2, r2, e2, R3, r3, e3, R4, r4, e4, R5, r5, e5, ⟨_, h2, h3⟩, _, ⟨t1, t2, t3, t4, _⟩, q0, q1, q2, q3, q4, q5, q6, q7⟩ := (sl_call hsl hbel (Nat.le_refl _)).rule hjn
        have hri : ActIs wr r.action R1 r1 R2 r2 R3 r3 R4 r4 := ⟨h2, t1, t2, t3, t4, h3⟩
        have hbb : b < wr.heap.size := hbl
        have hok := rule_actOk HZ.out hr
        have HKp := Lib.hid (keep_some hj hr)
        have HC := Lib.hid (fun w' (hw : Below wr.heap.size wr w') => ref6_ActionKey r.action R1 r1 e1 R2 r2 e2 R3 r3 e3 R4 r4 e4 w' (hE.then_ (fr_call hbel hw)) (hri.then_ hw) hok)
        unfold actVal at HC
        generalize digestS (actTextL r.action) = dg at HC HKp
        rw [numOr_some]
        have HK := Lib.hid (show ∀ w', Below wr.heap.size wr w' → (Below wr.heap.size wr w' ∧
            (w'.cell? ⟨b, o + j * 8 + 1, none⟩ = some (.string r.action.tool) ∧ w'.cell? ⟨b, o + j * 8 + 2, none⟩ = some (.slice R1 r1 e1) ∧ w'.cell? ⟨b, o + j * 8 + 3, none⟩ = some (.slice R2 r2 e2) ∧ w'.cell? ⟨b, o + j * 8 + 4, none⟩ = some (.slice R3 r3 e3) ∧
            w'.cell? ⟨b, o + j * 8 + 5, none⟩ = some (.slice R4 r4 e4) ∧ w'.cell? ⟨b, o + j * 8 + 6, none⟩ = some (.int .i64 r.action.time)) ∧
            w'.cell? ⟨b2, o2 + k * 8, none⟩ = some (.string x.name) ∧ w'.cell? ⟨b2, o2 + k * 8 + 1, none⟩ = some (.string x.action) ∧ w'.cell? ⟨b2, o2 + k * 8 + 2, none⟩ = some (.slice A1 n1 c1) ∧ w'.cell? ⟨b2, o2 + k * 8 + 3, none⟩ = some (.int .i64 x.result.code) ∧
            w'.cell? ⟨b2, o2 + k * 8 + 4, none⟩ = some (.string x.result.text) ∧ w'.cell? ⟨b2, o2 + k * 8 + 5, none⟩ = some (.slice A2 n2 c2) ∧ w'.cell? ⟨b2, o2 + k * 8 + 6, none⟩ = some (.slice A3 n3 c3) ∧ w'.cell? ⟨b2, o2 + k * 8 + 7, none⟩ = some (.int .i64 x.result.command)) from fun w' hw => by
          have f1 : ∀ o, w'.cell? ⟨b, o, none⟩ = wr.cell? ⟨b, o, none⟩ := fun o => hw.cell (p := ⟨b, o, none⟩) hbb
          have f2 : ∀ o, w'.cell? ⟨b2, o, none⟩ = wr.cell? ⟨b2, o, none⟩ := fun o => hw.cell (p := ⟨b2, o, none⟩) hbb2
          exact ⟨hw, ⟨(f1 _).trans q1, (f1 _).trans q2, (f1 _).trans q3, (f1 _).trans q4, (f1 _).trans q5, (f1 _).trans q6⟩, (f2 _).trans p0, (f2 _).trans p1, (f2 _).trans p2, (f2 _).trans p3, (f2 _).trans p4, (f2 _).trans p5, (f2 _).trans p6, (f2 _).trans p7⟩)
        clear hj hr hri hok q0 q7 p0
        have HRow := Lib.hid hrow
        cases hkp : (dg.toList == x.action.toList)
        · have HN := Lib.hid (show (ms.take (k + 1)).filter (keepM l) = (ms.take k).filter (keepM l) by rw [HF.out, HKp.out, hkp]; simp)
          clear hrow
          go_wp2
          go_region_held3 (fun w' => Below wr.heap.size wr w' ∧
            (w'.cell? ⟨b, o + j * 8 + 1, none⟩ = some (.string r.action.tool) ∧ w'.cell? ⟨b, o + j * 8 + 2, none⟩ = some (.slice R1 r1 e1) ∧ w'.cell? ⟨b, o + j * 8 + 3, none⟩ = some (.slice R2 r2 e2) ∧ w'.cell? ⟨b, o + j * 8 + 4, none⟩ = some (.slice R3 r3 e3) ∧
            w'.cell? ⟨b, o + j * 8 + 5, none⟩ = some (.slice R4 r4 e4) ∧ w'.cell? ⟨b, o + j * 8 + 6, none⟩ = some (.int .i64 r.action.time)) ∧
            w'.cell? ⟨b2, o2 + k * 8, none⟩ = some (.string x.name) ∧ w'.cell? ⟨b2, o2 + k * 8 + 1, none⟩ = some (.string x.action) ∧ w'.cell? ⟨b2, o2 + k * 8 + 2, none⟩ = some (.slice A1 n1 c1) ∧ w'.cell? ⟨b2, o2 + k * 8 + 3, none⟩ = some (.int .i64 x.result.code) ∧
            w'.cell? ⟨b2, o2 + k * 8 + 4, none⟩ = some (.string x.result.text) ∧ w'.cell? ⟨b2, o2 + k * 8 + 5, none⟩ = some (.slice A2 n2 c2) ∧ w'.cell? ⟨b2, o2 + k * 8 + 6, none⟩ = some (.slice A3 n3 c3) ∧ w'.cell? ⟨b2, o2 + k * 8 + 7, none⟩ = some (.int .i64 x.result.command))
            (first | assumption | exact HK.out _ (Below.refl _ wr).drew | exact HK.out _ (fr_call (And.left (by assumption)) hbc))
            (first | (go_at_call 40; refine (HC.out _ (And.left (by assumption))).mono ?_; rintro e wc ⟨rfl, hbc⟩))
          have hb9 : Below wr.heap.size wr wc := And.left (by assumption)
          go_wp2
          go_roundw
          case rel => exact ⟨k + 1, by omega, by go_num, by rw [HN.out]; exact HRow.out.call hb9, fr_call hbel hb9⟩
          case measure => simp [intOf]; omega
        · have HN := Lib.hid (show (ms.take (k + 1)).filter (keepM l) = (ms.take k).filter (keepM l) ++ [x] by rw [HF.out, HKp.out, hkp]; simp)
          have hlen : ((ms.take k).filter (keepM l)).length ≤ 500 := by
            have h1 := List.length_filter_le (keepM l) (ms.take k)
            have h2 := List.length_take_le k ms
            omega
          obtain ⟨L, hL⟩ : ∃ L, L = (ms.take k).filter (keepM l) := ⟨_, rfl⟩
          rw [← hL] at HN hlen HRow
          clear hL hrow
          go_wp2
          go_region_held3 (fun w' => Below wr.heap.size wr w' ∧
            (w'.cell? ⟨b, o + j * 8 + 1, none⟩ = some (.string r.action.tool) ∧ w'.cell? ⟨b, o + j * 8 + 2, none⟩ = some (.slice R1 r1 e1) ∧ w'.cell? ⟨b, o + j * 8 + 3, none⟩ = some (.slice R2 r2 e2) ∧ w'.cell? ⟨b, o + j * 8 + 4, none⟩ = some (.slice R3 r3 e3) ∧
            w'.cell? ⟨b, o + j * 8 + 5, none⟩ = some (.slice R4 r4 e4) ∧ w'.cell? ⟨b, o + j * 8 + 6, none⟩ = some (.int .i64 r.action.time)) ∧
            w'.cell? ⟨b2, o2 + k * 8, none⟩ = some (.string x.name) ∧ w'.cell? ⟨b2, o2 + k * 8 + 1, none⟩ = some (.string x.action) ∧ w'.cell? ⟨b2, o2 + k * 8 + 2, none⟩ = some (.slice A1 n1 c1) ∧ w'.cell? ⟨b2, o2 + k * 8 + 3, none⟩ = some (.int .i64 x.result.code) ∧
            w'.cell? ⟨b2, o2 + k * 8 + 4, none⟩ = some (.string x.result.text) ∧ w'.cell? ⟨b2, o2 + k * 8 + 5, none⟩ = some (.slice A2 n2 c2) ∧ w'.cell? ⟨b2, o2 + k * 8 + 6, none⟩ = some (.slice A3 n3 c3) ∧ w'.cell? ⟨b2, o2 + k * 8 + 7, none⟩ = some (.int .i64 x.result.command))
            (first | assumption | exact HK.out _ (Below.refl _ wr).drew | exact HK.out _ (fr_call (And.left (by assumption)) hbc))
            (first | (go_at_call 40; refine (HC.out _ (And.left (by assumption))).mono ?_; rintro e wc ⟨rfl, hbc⟩))
          have hb9 : Below wr.heap.size wr wc := And.left (by assumption)
          obtain ⟨_, _, p0, p1, p2, p3, p4, p5, p6, p7⟩ := HK.out _ hb9
          have hrow9 := HRow.out.call hb9
          have hbel9 := fr_call hbel hb9
          have hxc : Rep.rep wc (Lt w.heap.size) x (memCells x A1 n1 c1 A2 n2 c2 A3 n3 c3) := Rep.keep (fun k hk => hb9.block k (Nat.lt_of_lt_of_le hk hzr)) HXr.out
          have hW9 : Below wc.heap.size wc (wc.alloc (.cells #[.string x.name, .string x.action, .slice A1 n1 c1, .int .i64 x.result.code, .string x.result.text, .slice A2 n2 c2, .slice A3 n3 c3, .int .i64 x.result.command] 68)) := fr_alloc (fr_refl wc) _
          obtain ⟨hK9, rows, hrows, hown9, hrep9⟩ := hrow9.call hW9
          have hzc := hb9.size
          have hx9 : Rep.rep (wc.alloc (.cells #[.string x.name, .string x.action, .slice A1 n1 c1, .int .i64 x.result.code, .string x.result.text, .slice A2 n2 c2, .slice A3 n3 c3, .int .i64 x.result.command] 68)) (Lt w.heap.size) x (memCells x A1 n1 c1 A2 n2 c2 A3 n3 c3) :=
            Rep.keep (fun k hk => hW9.block k (by have : k < w.heap.size := hk; omega)) hxc
          have HNew := Lib.hid (new_cells wc #[.string x.name, .string x.action, .slice A1 n1 c1, .int .i64 x.result.code, .string x.result.text, .slice A2 n2 c2, .slice A3 n3 c3, .int .i64 x.result.command] 68)
          have hoth : ∀ g, u8.ownBlock = some g → w.heap.size ≤ g := fun g hg => (hrow9.kind g hg).1
          have H9 := Lib.hid hown9
          have hbw9 := fr_call hbel9 hW9
          have hzcw := hbel9.size
          clear hown9 hrow9 hxc HK HC
          go_wp2_with (at_builtin; refine wpList_append_lies _ rfl _ _ 30 rfl w.heap.size 68 i0 _ 8 136 Tryz.underlying30 hi0 hz0 hz1 hz2 rfl (by decide) _ L.length _ rfl H9.out ⟨wc.heap.size, 0, none⟩ 1 1 (memCells x A1 n1 c1 A2 n2 c2 A3 n3 c3) rfl rfl HNew.out (mem_cells_one x A1 n1 c1 A2 n2 c2 A3 n3 c3) (by decide) (by unfold maxLen; omega) (by omega) (by rw [World.size_alloc]; omega) _ rfl ?_)
          intro g' cap w9 hown10 hg9 hat9 hlt9
          have hrow10 := RowK.append (x := x) (r := memCells x A1 n1 c1 A2 n2 c2 A3 n3 c3) hK9 hrows hrep9 hx9 (fun g hg hh => by have h1 : g < w.heap.size := hh; have h2 := hoth g hg; omega) hg9 hown10
          rw [← HN.out] at hrow10
          have hb10 := hbw9.grown hg9 (by rw [World.size_alloc]; omega) fun b hb => hoth b hb
          have HR10 := Lib.hid hrow10
          clear hown10 hg9 hat9 hlt9 hrow10 hx9 hrep9 HNew H9
          go_wp2
          go_roundw
          case rel => exact ⟨k + 1, by omega, by go_num, HR10.out, hb10⟩
          case measure => simp [intOf]; omega
    · rw [List.take_of_length_le (by rw [HL2.out]; omega)] at hrow
      obtain ⟨A7, c7, rfl, h71, h72, hs7⟩ := hrow.sl
      have HE := Lib.hid (PrunedPost.good (A := A7) (n := (ms.filter (keepM l)).length) (c := c7) HPZ.out h71 h72 hs7 hbel)
      clear hrow hs7
      go_wp2
      go_ret2
      exact HE.out
end Go.Proofs.Sm

namespace Go.Proofs.Sm
open Go.RowKit

theorem sc_size (g : Nat) : ∀ (us : List Value) (o : Nat) (w : World), (w.setCells g o us).heap.size = w.heap.size
  | [], _, _ => rfl
  | u :: us, o, w => by rw [World.setCells, sc_size g us]; simp
theorem sc_other (g : Nat) {b : Nat} (hb : b ≠ g) : ∀ (us : List Value) (o : Nat) (w : World), (w.setCells g o us).heap[b]? = w.heap[b]?
  | [], _, _ => rfl
  | u :: us, o, w => by rw [World.setCells, sc_other g hb us, heap_setCell_other w ⟨g, o, none⟩ b u hb]
theorem sc_below {n g : Nat} (hg : n ≤ g) : ∀ (us : List Value) (o : Nat) {w w' : World}, Below n w w' → Below n w (w'.setCells g o us)
  | [], _, _, _, h => h
  | u :: us, o, _, _, h => by rw [World.setCells]; exact sc_below hg us (o + 1) (h.setCell (p := ⟨g, o, none⟩) hg u)
theorem splice_step {α : Type} (xs : List α) (o : Nat) (u : α) (us : List α) (h : o < xs.length) :
    (xs.set o u).take (o + 1) ++ us ++ (xs.set o u).drop (o + 1 + us.length) = xs.take o ++ (u :: us) ++ xs.drop (o + (u :: us).length) := by
  have h1 : (xs.set o u).take (o + 1) = xs.take o ++ [u] := by
    rw [List.take_add_one, List.getElem?_set_self h, List.take_set_of_le (Nat.le_refl o)]
    rfl
  have h2 : (xs.set o u).drop (o + 1 + us.length) = xs.drop (o + 1 + us.length) := by
    rw [List.drop_set_of_lt (by omega)]
  rw [h1, h2, List.length_cons, show o + (us.length + 1) = o + 1 + us.length by omega]
  simp
theorem set_run {B : Nat} {e : TypeId} {sz g n cap : Nat} : ∀ (us : List Value) (o : Nat) {w : World} {xs : List Value}, w.ownsRow B e sz (.slice (some ⟨g, 0, none⟩) n cap) n xs → o + us.length ≤ xs.length →
    (w.setCells g o us).ownsRow B e sz (.slice (some ⟨g, 0, none⟩) n cap) n (xs.take o ++ us ++ xs.drop (o + us.length))
  | [], o, w, xs, h, _ => by simpa [World.setCells, List.take_append_drop] using h
  | u :: us, o, w, xs, h, hl => by
    have hl' : o + (us.length + 1) ≤ xs.length := hl
    have h1 := (h.stored o u).1
    have h2 := set_run us (o + 1) h1 (by rw [List.length_set]; omega)
    rw [World.setCells, ← splice_step xs o u us (by omega)]
    exact h2
theorem flatten_setRow {sz : Nat} {us : List Value} (hu : us.length = sz) : ∀ {rows : List (List Value)} {i : Nat}, (∀ r ∈ rows, r.length = sz) → i < rows.length → (rows.set i us).flatten = rows.flatten.take (i * sz) ++ us ++ rows.flatten.drop (i * sz + us.length)
  | [], i, _, h => absurd h (by simp)
  | a :: rows, 0, hl, _ => by
    have ha := hl a (by simp)
    rw [List.set_cons_zero, List.flatten_cons, List.flatten_cons, Nat.zero_mul, Nat.zero_add, List.take_zero, List.nil_append, List.drop_left' (by rw [ha, hu])]
  | a :: rows, i + 1, hl, h => by
    have ha := hl a (by simp)
    have ih := flatten_setRow hu (rows := rows) (i := i) (fun r hr => hl r (by simp [hr])) (by simpa using h)
    rw [List.set_cons_succ, List.flatten_cons, List.flatten_cons, ih, Nat.succ_mul, show i * sz + sz = a.length + i * sz by rw [ha]; omega, Nat.add_assoc, List.take_length_add_append, List.drop_length_add_append]
    simp [List.append_assoc]
section
variable {α : Type} [Rep α] {w w' : World} {B : Nat} {e : TypeId} {K : Nat → Prop} {v : Value} {l : List α}
theorem RowK.lens {rows : List (List Value)} (hr : rows.length = l.length) (hrep : ∀ (i : Nat) (x : α) (r : List Value), l[i]? = some x → rows[i]? = some r → Rep.rep w K x r) : ∀ r ∈ rows, r.length = Rep.sz α := by
  intro r hr2
  obtain ⟨i, hi⟩ := List.getElem?_of_mem hr2
  have hi2 := (List.getElem?_eq_some_iff.1 hi).1
  exact Rep.len (hrep i l[i] r (List.getElem?_eq_getElem (by omega)) hi)
/-- an element is replaced -/
theorem RowK.setRow {g n cap i : Nat} {x : α} {us : List Value} (h : RowK w B e K (.slice (some ⟨g, 0, none⟩) n cap) l) (hg : ¬ K g) (hi : i < l.length) (hx : Rep.rep w K x us) :
    RowK (w.setCells g (i * Rep.sz α) us) B e K (.slice (some ⟨g, 0, none⟩) n cap) (l.set i x) := by
  obtain ⟨_, _, hv⟩ := h.form
  cases hv
  obtain ⟨hk, rows, hr, hown, hrep⟩ := h
  have hlens := RowK.lens hr hrep
  have hu : us.length = Rep.sz α := Rep.len hx
  have hkeep : ∀ k, K k → (w.setCells g (i * Rep.sz α) us).heap[k]? = w.heap[k]? := fun k hh => sc_other g (by rintro rfl; exact hg hh) us _ w
  have hfl : rows.flatten.length = rows.length * Rep.sz α := flatten_len hlens
  have hin : i * Rep.sz α + us.length ≤ rows.flatten.length := by
    rw [hfl, hu, ← Nat.succ_mul]
    exact Nat.mul_le_mul_right _ (by omega)
  refine ⟨fun k hh => by rw [sc_size]; exact hk k hh, rows.set i us, by simp [hr], ?_, fun i' x' r' hx' hr' => Rep.keep hkeep ?_⟩
  · rw [List.length_set, flatten_setRow hu hlens (by omega)]
    exact set_run us _ hown hin
  · by_cases e1 : i = i'
    · subst e1
      rw [List.getElem?_set_self (by omega)] at hr'
      rw [List.getElem?_set_self hi] at hx'
      cases hr'
      cases hx'
      exact hx
    · rw [List.getElem?_set_ne e1] at hr' hx'
      exact hrep i' x' r' hx' hr'
/-- a row is cut to its first elements, and what lies behind these is written over -/
theorem RowK.shut {g n cap k : Nat} {zs : List Value} (h : RowK w B e K (.slice (some ⟨g, 0, none⟩) n cap) l) (hg : ¬ K g) (hk : k ≤ n) (hz : zs.length = (n - k) * Rep.sz α) :
    RowK (w.setCells g (k * Rep.sz α) zs) B e K (.slice (some ⟨g, 0, none⟩) k cap) (l.take k) := by
  obtain ⟨_, _, hv⟩ := h.form
  cases hv
  obtain ⟨hkk, rows, hr, hown, hrep⟩ := h
  have hlens := RowK.lens hr hrep
  have hkeep : ∀ b, K b → (w.setCells g (k * Rep.sz α) zs).heap[b]? = w.heap[b]? := fun b hh => sc_other g (by rintro rfl; exact hg hh) zs _ w
  have hfl : rows.flatten.length = rows.length * Rep.sz α := flatten_len hlens
  have hsum : k * Rep.sz α + zs.length = rows.flatten.length := by
    rw [hfl, hz, hr, ← Nat.add_mul]
    congr 1; omega
  have h1 := set_run zs (k * Rep.sz α) hown (by omega)
  have htn : (rows.take k).length = k := by rw [List.length_take]; omega
  have htl : ∀ r ∈ rows.take k, r.length = Rep.sz α := fun r hr => hlens r (List.mem_of_mem_take hr)
  have hft : (rows.take k).flatten = rows.flatten.take (k * Rep.sz α) := by
    have h1 : rows.flatten = (rows.take k).flatten ++ (rows.drop k).flatten := by rw [← List.flatten_append, List.take_append_drop]
    rw [h1, List.take_left' (by rw [flatten_len htl, htn])]
  have hlk : (l.take k).length = k := by rw [List.length_take]; omega
  refine ⟨fun b hh => by rw [sc_size]; exact hkk b hh, rows.take k, by rw [htn, hlk], ?_, fun i y r hy hri => Rep.keep hkeep ?_⟩
  · rw [hlk]
    refine ⟨by rw [flatten_len htl, htn], .inr ?_⟩
    rcases h1.2 with ⟨h0, _⟩ | ⟨g', cap', cur, hv, hgb, hb, h2, h3, h4, h5⟩
    · cases h0
    · cases hv
      refine ⟨g, cap, cur, rfl, hgb, hb, by omega, h3, h4, ?_⟩
      have h6 : cur.toList.take (k * Rep.sz α) = (cur.toList.take (l.length * Rep.sz α)).take (k * Rep.sz α) := by
        rw [List.take_take, Nat.min_eq_left (Nat.mul_le_mul_right _ hk)]
      rw [h6, h5, hft, List.append_assoc, List.take_left' (by rw [List.length_take]; omega)]
  · rw [List.getElem?_take] at hy hri
    split at hy
    · rename_i hik
      rw [if_pos hik] at hri
      exact hrep i y r hy hri
    · cases hy
end
end Go.Proofs.Sm

namespace Go.Proofs.Sm
open Go.RowKit

section
variable {α : Type} [Rep α] {w : World} {B : Nat} {e : TypeId} {K : Nat → Prop} {l : List α}
theorem RowK.base {A : Option Addr} {n c : Nat} (h : RowK w B e K (.slice A n c) l) (h0 : 0 < n) : ∃ g, A = some ⟨g, 0, none⟩ ∧ B ≤ g ∧ g < w.heap.size := by
  obtain ⟨A', c', _, _, e', _, _, hA', _, _⟩ := h.cut (Nat.zero_le _)
  cases e'
  rcases hA' with ⟨_, h1, _⟩ | h1
  · omega
  · exact h1
theorem RowK.cellSome {g n cap j : Nat} (h : RowK w B e K (.slice (some ⟨g, 0, none⟩) n cap) l) (hj : j < n * Rep.sz α) : (w.cell? ⟨g, j, none⟩).isSome = true := by
  obtain ⟨_, _, hv⟩ := h.form
  cases hv
  obtain ⟨_, rows, hr, hown, hrep⟩ := h
  have hfl : rows.flatten.length = rows.length * Rep.sz α := flatten_len (RowK.lens hr hrep)
  have hx : rows.flatten[j]? = some (rows.flatten[j]'(by rw [hfl, hr]; exact hj)) := List.getElem?_eq_getElem _
  have h3 := hown.cells rfl j _ hx
  rw [addr_add, Nat.zero_add] at h3
  rw [h3]; rfl
end
theorem zero_ones {cs : Array Value} (h0 : 0 < cs.size) (h : ∀ u ∈ cs.toList, u.oneCell' = true) (n : Nat) : (Builtin.zeroCells cs n).toList.length = n * cs.size ∧ ∀ v ∈ (Builtin.zeroCells cs n).toList, v.oneCell' = true := by
  refine ⟨by simp [Builtin.zeroCells], fun v hv => ?_⟩
  simp only [Builtin.zeroCells, Array.toList_map, List.mem_map] at hv
  obtain ⟨i, _, rfl⟩ := hv
  have hi : i % cs.size < cs.size := Nat.mod_lt _ h0
  rw [getElem!_pos cs _ hi]
  exact h _ (by simp)
theorem run_clear_mem {w : World} {g i n c : Nat} (ty : TypeId) (hn : i < n) (hc : ∀ j, j < (n - i) * 8 → (w.cell? ⟨g, i * 8 + j, none⟩).isSome = true) (hf : ∀ j, w.frozen? ⟨g, j, none⟩ = false) :
    ∃ zs, zs.length = (n - i) * 8 ∧ (Builtin.clear_ #[30] ty #[.slice (some ⟨g, i * 8, none⟩) (n - i) c]).run Tryz.prog w = .ok (.tuple #[]) (w.setCells g (i * 8) zs) := by
  obtain ⟨z, hz⟩ : ∃ z : Value, z = .agg #[.string ⟨#[]⟩, .string ⟨#[]⟩, .slice none 0 0, .int .i64 0, .string ⟨#[]⟩, .slice none 0 0, .slice none 0 0, .int .i64 0] := ⟨_, rfl⟩
  have hv : ∀ w, (zeroValue 68).run Tryz.prog w = .ok z w := fun w => by rw [hz]; kernel_rfl
  have hcs : z.cells = #[.string ⟨#[]⟩, .string ⟨#[]⟩, .slice none 0 0, .int .i64 0, .string ⟨#[]⟩, .slice none 0 0, .slice none 0 0, .int .i64 0] := by rw [hz]; rfl
  obtain ⟨h1, h2⟩ := zero_ones (cs := z.cells) (by rw [hcs]; decide) (by
    rw [hcs]
    intro u hu
    simp only [List.mem_cons, List.not_mem_nil, or_false] at hu
    rcases hu with rfl | rfl | rfl | rfl | rfl | rfl | rfl | rfl <;> rfl) (n - i)
  have hs8 : z.cells.size = 8 := by rw [hcs]; rfl
  rw [hs8] at h1
  have hst := run_storeCells_cells (P := Tryz.prog) g (i * 8) (Builtin.zeroCells z.cells (n - i)).toList 0 w (by rw [h1]; intro j hj; rw [Nat.add_zero]; exact hc j hj) (fun j _ => hf _) h2
  simp only [Nat.add_zero] at hst
  refine ⟨_, h1, ?_⟩
  obtain ⟨m, hm⟩ : ∃ m, n - i = m + 1 := ⟨n - i - 1, by omega⟩
  rw [hm] at hst ⊢
  simp [Builtin.clear_, run_underlying (P := Tryz.prog) Tryz.underlying30, hv, hst]
set_option maxHeartbeats 1000000 in
set_option maxRecDepth 100000 in
theorem indexFunc_mem (g : Nat) (eg : ∀ args w, (callFunc g args).run Tryz.prog w = .ok (.enter g args) w) (v1 v2 : Value) (p : MemoryV → Bool) (A : Option Addr) (n c : Nat) (l : List MemoryV) (B : Nat) (K : Nat → Prop) (w : World) (hrow : RowK w B 68 K (.slice A n c) l) (hln : l.length = n) (hn : n ≤ 1000)
    (hp : ∀ (W : World) (x : MemoryV) (A1 : Option Addr) (n1 c1 : Nat) (A2 : Option Addr) (n2 c2 : Nat) (A3 : Option Addr) (n3 c3 : Nat), Below w.heap.size w W → x ∈ l →
      Calls Tryz.prog g #[memVal x A1 n1 c1 A2 n2 c2 A3 n3 c3, v1, v2] W fun e w' => e = .returned (.bool (p x)) ∧ Below W.heap.size W w') :
    Calls Tryz.prog 70 #[.slice A n c, .func (.func g) #[] #[v1, v2]] w fun e w' =>
      (e = .returned (.int .i64 (-1)) ∧ l.any p = false ∨ ∃ (k : Nat) (x : MemoryV), e = .returned (.int .i64 (k : Int)) ∧ l[k]? = some x ∧ p x = true ∧ (l.take k).any p = false) ∧ Below w.heap.size w w' := by
  have hm : n ≤ 9223372036854775807 := by omega
  have HL := Lib.hid hln; clear hln
  have HP := Lib.hid hp; clear hp
  unfold memVal at HP
  go_enter Tryz.func70, Tryz.ntmps70
  go_wp2
  go_loopw [8] (fun i wx => ∃ k : Nat, k ≤ n ∧ i = .int .i64 k ∧ (l.take k).any p = false ∧ Below w.heap.size w wx) (fun i _ => n - (intOf i).toNat)
  case atStart => exact ⟨0, Nat.zero_le _, rfl, rfl, Below.refl _ _⟩
  case round =>
    obtain ⟨k, hk, rfl, hall, hbel⟩ := hrel
    have H := Lib.hid hall; clear hall
    by_cases hlt : k < n
    · have hkI : (k : Int) < (n : Int) := by omega
      obtain ⟨gg, rfl, _, _⟩ := hrow.base (by omega)
      obtain ⟨x, hx⟩ := at_lt (l := l) (k := k) (by rw [HL.out]; exact hlt)
      obtain ⟨r, hr, hc⟩ := (hrow.call hbel).elem hx
      obtain ⟨A1, n1, c1, A2, n2, c2, A3, n3, c3, rfl, hr'⟩ := hr
      have q0 : wr.cell? ⟨gg, k * 8, none⟩ = some (.string x.name) := hc 0 _ rfl
      have q1 : wr.cell? ⟨gg, k * 8 + 1, none⟩ = some (.string x.action) := hc 1 _ rfl
      have q2 : wr.cell? ⟨gg, k * 8 + 2, none⟩ = some (.slice A1 n1 c1) := hc 2 _ rfl
      have q3 : wr.cell? ⟨gg, k * 8 + 3, none⟩ = some (.int .i64 x.result.code) := hc 3 _ rfl
      have q4 : wr.cell? ⟨gg, k * 8 + 4, none⟩ = some (.string x.result.text) := hc 4 _ rfl
      have q5 : wr.cell? ⟨gg, k * 8 + 5, none⟩ = some (.slice A2 n2 c2) := hc 5 _ rfl
      have q6 : wr.cell? ⟨gg, k * 8 + 6, none⟩ = some (.slice A3 n3 c3) := hc 6 _ rfl
      have q7 : wr.cell? ⟨gg, k * 8 + 7, none⟩ = some (.int .i64 x.result.command) := hc 7 _ rfl
      have HX := Lib.hid hx
      have HC := Lib.hid (HP.out wr x A1 n1 c1 A2 n2 c2 A3 n3 c3 hbel (List.mem_of_getElem? hx))
      clear hx hc hr'
      cases hq : p x
      · have HS := Lib.hid (any_step (p := p) HX.out H.out hq)
        go_wp2_with fail
        refine HC.out.mono ?_
        rintro e w1 ⟨rfl, hb1⟩
        rw [hq]
        have hb2 := fr_call hbel hb1
        go_wp2
        go_roundw
        case rel => exact ⟨k + 1, by omega, by go_num, HS.out, hb2⟩
        case measure => simp [intOf]; omega
      · have HQ := Lib.hid hq
        go_wp2_with fail
        refine HC.out.mono ?_
        rintro e w1 ⟨rfl, hb1⟩
        rw [hq]
        go_wp2
        go_ret
        exact ⟨.inr ⟨k, x, rfl, HX.out, HQ.out, H.out⟩, fr_call hbel hb1⟩
    · have HS := Lib.hid (any_end (by rw [HL.out]; omega) H.out)
      go_wp2
      go_ret
      exact ⟨.inl ⟨rfl, HS.out⟩, hbel⟩
theorem filter_all {l : List MemoryV} {p : MemoryV → Bool} (h : l.any p = false) : (l.filter fun x => !p x) = l := by
  rw [List.filter_eq_self]
  intro x hx
  have := List.any_eq_false.1 h x hx
  simpa using this
theorem drop_atM {l L : List MemoryV} {j : Nat} {x : MemoryV} (h : L.drop j = l.drop j) (hx : l[j]? = some x) : L[j]? = some x := by
  have h1 : (L.drop j)[0]? = (l.drop j)[0]? := by rw [h]
  rw [List.getElem?_drop, List.getElem?_drop, Nat.add_zero] at h1
  rw [h1, hx]
theorem drop_next {l L : List MemoryV} {j : Nat} (h : L.drop j = l.drop j) : L.drop (j + 1) = l.drop (j + 1) := by
  rw [← List.drop_drop, ← List.drop_drop, h]
theorem strike_keep {l L : List MemoryV} {p : MemoryV → Bool} {i j : Nat} {x : MemoryV} (hij : i < j) (hl : i < L.length) (h1 : L.take i = (l.take j).filter fun x => !p x) (h2 : L.drop j = l.drop j) (hx : l[j]? = some x) (hp : p x = false) :
    (L.set i x).take (i + 1) = (l.take (j + 1)).filter (fun x => !p x) ∧ (L.set i x).drop (j + 1) = l.drop (j + 1) := by
  refine ⟨?_, ?_⟩
  · rw [List.take_add_one, List.getElem?_set_self hl, List.take_set_of_le (Nat.le_refl i), h1, filter_take (p := fun x => !p x) hx, hp]
    rfl
  · rw [List.drop_set_of_lt (by omega)]
    exact drop_next h2
theorem strike_skip {l L : List MemoryV} {p : MemoryV → Bool} {i j : Nat} {x : MemoryV} (h1 : L.take i = (l.take j).filter fun x => !p x) (hx : l[j]? = some x) (hp : p x = true) : L.take i = (l.take (j + 1)).filter fun x => !p x := by
  rw [filter_take (p := fun x => !p x) hx, hp, h1]
  simp
theorem strike_start {l : List MemoryV} {p : MemoryV → Bool} {k : Nat} {x : MemoryV} (h : (l.take k).any p = false) (hx : l[k]? = some x) (hp : p x = true) : l.take k = (l.take (k + 1)).filter fun x => !p x :=
  strike_skip (filter_all h).symm hx hp
end Go.Proofs.Sm

namespace Go.Proofs.Sm
open Go.RowKit

set_option maxHeartbeats 4000000 in
set_option maxRecDepth 100000 in
theorem deleteFunc_mem (g : Nat) (eg : ∀ args w, (callFunc g args).run Tryz.prog w = .ok (.enter g args) w) (v1 v2 : Value) (p : MemoryV → Bool) (v : Value) (l : List MemoryV) (B : Nat) (K : Nat → Prop) (w : World) (hrow : RowK w B 68 K v l) (hB : B ≤ w.heap.size) (hn : l.length ≤ 1000)
    (hne : ∀ g, v.ownBlock = some g → ¬ K g)
    (hp : ∀ (W : World) (x : MemoryV) (A1 : Option Addr) (n1 c1 : Nat) (A2 : Option Addr) (n2 c2 : Nat) (A3 : Option Addr) (n3 c3 : Nat), Below B w W → x ∈ l →
      Calls Tryz.prog g #[memVal x A1 n1 c1 A2 n2 c2 A3 n3 c3, v1, v2] W fun e w' => e = .returned (.bool (p x)) ∧ Below W.heap.size W w') :
    Calls Tryz.prog 35 #[v, .func (.func g) #[] #[v1, v2]] w fun e w' => ∃ A n c, e = .returned (.slice A n c) ∧ RowK w' B 68 K (.slice A n c) (l.filter fun x => !p x) ∧ Below B w w' := by
  obtain ⟨A, c, rfl, hc1, hc2, hsl⟩ := hrow.sl
  obtain ⟨n, hnl⟩ : ∃ n, n = l.length := ⟨_, rfl⟩
  rw [← hnl] at hc1 hsl hn hrow ⊢
  have HL := Lib.hid hnl.symm
  have hm : n ≤ 9223372036854775807 := by omega
  have hcm : c ≤ 9223372036854775807 := hc2
  have HI := Lib.hid (indexFunc_mem g eg v1 v2 p A n c l B K w hrow hnl.symm hn fun W x A1 n1 c1 A2 n2 c2 A3 n3 c3 hb hx => hp W x A1 n1 c1 A2 n2 c2 A3 n3 c3 (hb.mono hB) hx)
  clear hnl hsl
  go_enter Tryz.func35, Tryz.ntmps35
  go_wp2_with fail
  refine HI.out.mono ?_
  rintro e w1 ⟨⟨rfl, hall⟩ | ⟨k, x, rfl, hx, hpx, hpre⟩, hb1⟩
  · have HR := Lib.hid (show RowK w1 B 68 K (.slice A n c) (l.filter fun x => !p x) by rw [filter_all hall]; exact hrow.call hb1)
    clear hall hrow hp
    go_wp2
    go_ret
    exact ⟨A, n, c, rfl, HR.out, hb1.mono hB⟩
  · have hkn : k < n := by have := (List.getElem?_eq_some_iff.1 hx).1; have := HL.out; omega
    obtain ⟨gg, rfl, hgB, hgw⟩ := hrow.base (by omega)
    have hne1 : ((k : Int) == -1) = false := beq_eq_false_iff_ne.2 (by omega)
    have HP := Lib.hid hp
    unfold memVal at HP
    have HK0 := Lib.hid (hne gg rfl)
    have HS := Lib.hid (strike_start hpre hx hpx)
    have hrow1 := hrow.call hb1
    have hbB := hb1.mono hB
    have hgw1 : gg < w1.heap.size := by have := hb1.size; omega
    clear hp hx hpx hpre hrow HI hne
    go_wp2
    go_loopw [5, 6] (fun iv jv wx => ∃ (i j : Nat) (L : List MemoryV), iv = .int .i64 i ∧ jv = .int .i64 j ∧ i < j ∧ j ≤ n ∧ L.length = n ∧ L.take i = (l.take j).filter (fun x => !p x) ∧ L.drop j = l.drop j ∧ RowK wx B 68 K (.slice (some ⟨gg, 0, none⟩) n c) L ∧ gg < wx.heap.size ∧ Below B w wx) (fun _ jv _ => n - (intOf jv).toNat)
    case atStart => exact ⟨k, k + 1, l, rfl, by go_num, by omega, by omega, HL.out, HS.out, rfl, hrow1, hgw1, hbB⟩
    case round =>
      clear hrow1 hgw1 hbB hb1
      obtain ⟨i, j, L, rfl, rfl, hij, hjn, hLn, hpre, hdr, hrow, hgr, hbel⟩ := hrel
      have HPre := Lib.hid hpre; clear hpre
      have HDr := Lib.hid hdr; clear hdr
      have HLn := Lib.hid hLn; clear hLn
      by_cases hlt : j < n
      · have hjI : (j : Int) < (n : Int) := by omega
        have hiI : (i : Int) < (n : Int) := by omega
        obtain ⟨x, hx⟩ := at_lt (l := l) (k := j) (by rw [HL.out]; exact hlt)
        have hLx := drop_atM HDr.out hx
        obtain ⟨r, hr, hc⟩ := hrow.elem hLx
        obtain ⟨A1, n1, c1', A2, n2, c2', A3, n3, c3', rfl, hr'⟩ := hr
        have hrx : Rep.rep wr K x (memCells x A1 n1 c1' A2 n2 c2' A3 n3 c3') := ⟨A1, n1, c1', A2, n2, c2', A3, n3, c3', rfl, hr'⟩
        have q0 : wr.cell? ⟨gg, j * 8, none⟩ = some (.string x.name) := hc 0 _ rfl
        have q1 : wr.cell? ⟨gg, j * 8 + 1, none⟩ = some (.string x.action) := hc 1 _ rfl
        have q2 : wr.cell? ⟨gg, j * 8 + 2, none⟩ = some (.slice A1 n1 c1') := hc 2 _ rfl
        have q3 : wr.cell? ⟨gg, j * 8 + 3, none⟩ = some (.int .i64 x.result.code) := hc 3 _ rfl
        have q4 : wr.cell? ⟨gg, j * 8 + 4, none⟩ = some (.string x.result.text) := hc 4 _ rfl
        have q5 : wr.cell? ⟨gg, j * 8 + 5, none⟩ = some (.slice A2 n2 c2') := hc 5 _ rfl
        have q6 : wr.cell? ⟨gg, j * 8 + 6, none⟩ = some (.slice A3 n3 c3') := hc 6 _ rfl
        have q7 : wr.cell? ⟨gg, j * 8 + 7, none⟩ = some (.int .i64 x.result.command) := hc 7 _ rfl
        have HX := Lib.hid hx
        have hxl := List.mem_of_getElem? hx
        have HRow := Lib.hid hrow
        have HRx := Lib.hid hrx
        clear hx hLx hc hr' hrx hrow
        go_wp2_with fail
        generalize hW9 : wr.alloc (.cells #[.string x.name, .string x.action, .slice A1 n1 c1', .int .i64 x.result.code, .string x.result.text, .slice A2 n2 c2', .slice A3 n3 c3', .int .i64 x.result.command] 68) = W9
        have hA9 : Arr W9 wr.heap.size 68 (memCells x A1 n1 c1' A2 n2 c2' A3 n3 c3') := by rw [← hW9]; exact mem_box ..
        have hb9 : Below wr.heap.size wr W9 := by rw [← hW9]; exact fr_alloc (fr_refl wr) _
        clear hW9 q0 q1 q2 q3 q4 q5 q6 q7
        have hKr : ∀ k, K k → k < wr.heap.size := HRow.out.1
        refine (HP.out W9 x A1 n1 c1' A2 n2 c2' A3 n3 c3' (hbel.trans (hb9.mono (by have := hbel.size; omega))) hxl).mono ?_
        rintro e w2 ⟨rfl, hb2⟩
        have hb92 := fr_call hb9 hb2
        have hA2 := hA9.call hb2
        have hrow2 := HRow.out.call hb92
        have hgr2 : gg < w2.heap.size := by have := hb92.size; omega
        have hbel2 := hbel.trans (hb92.mono (by have := hbel.size; omega))
        cases hq : p x
        · have HKe := Lib.hid (strike_keep hij (by have := HLn.out; omega) HPre.out HDr.out HX.out hq)
          obtain ⟨y, hy⟩ := at_lt (l := L) (k := i) (by have := HLn.out; omega)
          obtain ⟨r, hr, hc⟩ := hrow2.elem hy
          obtain ⟨B1, m1, d1, B2, m2, d2, B3, m3, d3, rfl, _⟩ := hr
          have y0 : w2.cell? ⟨gg, i * 8, none⟩ = some (.string y.name) := hc 0 _ rfl
          have y1 : w2.cell? ⟨gg, i * 8 + 1, none⟩ = some (.string y.action) := hc 1 _ rfl
          have y2 : w2.cell? ⟨gg, i * 8 + 2, none⟩ = some (.slice B1 m1 d1) := hc 2 _ rfl
          have y3 : w2.cell? ⟨gg, i * 8 + 3, none⟩ = some (.int .i64 y.result.code) := hc 3 _ rfl
          have y4 : w2.cell? ⟨gg, i * 8 + 4, none⟩ = some (.string y.result.text) := hc 4 _ rfl
          have y5 : w2.cell? ⟨gg, i * 8 + 5, none⟩ = some (.slice B2 m2 d2) := hc 5 _ rfl
          have y6 : w2.cell? ⟨gg, i * 8 + 6, none⟩ = some (.slice B3 m3 d3) := hc 6 _ rfl
          have y7 : w2.cell? ⟨gg, i * 8 + 7, none⟩ = some (.int .i64 y.result.command) := hc 7 _ rfl
          have f0 := hrow2.frozenAt (i * 8)
          have f1 := hrow2.frozenAt (i * 8 + 1)
          have f2 := hrow2.frozenAt (i * 8 + 2)
          have f3 := hrow2.frozenAt (i * 8 + 3)
          have f4 := hrow2.frozenAt (i * 8 + 4)
          have f5 := hrow2.frozenAt (i * 8 + 5)
          have f6 := hrow2.frozenAt (i * 8 + 6)
          have f7 := hrow2.frozenAt (i * 8 + 7)
          have z0 := hA2.cell (i := 0) rfl
          have z1 := hA2.cell (i := 1) rfl
          have z2 := hA2.cell (i := 2) rfl
          have z3 := hA2.cell (i := 3) rfl
          have z4 := hA2.cell (i := 4) rfl
          have z5 := hA2.cell (i := 5) rfl
          have z6 := hA2.cell (i := 6) rfl
          have z7 := hA2.cell (i := 7) rfl
          have hrx2 : Rep.rep w2 K x (memCells x A1 n1 c1' A2 n2 c2' A3 n3 c3') := Rep.keep (fun k hh => hb92.block k (hKr k hh)) HRx.out
          have HRow3 := Lib.hid (hrow2.setRow (i := i) HK0.out (by have := HLn.out; omega) hrx2)
          have HB3 := Lib.hid (sc_below hgB (memCells x A1 n1 c1' A2 n2 c2' A3 n3 c3') (i * 8) hbel2)
          have HG3 := Lib.hid (show gg < (w2.setCells gg (i * 8) (memCells x A1 n1 c1' A2 n2 c2' A3 n3 c3')).heap.size by rw [sc_size]; exact hgr2)
          have HLn3 := Lib.hid (show (L.set i x).length = n by rw [List.length_set]; exact HLn.out)
          clear hrow2 hc hy hA2 hA9 hbel2 hrx2 hq
          go_wp2
          go_roundw
          case rel => exact ⟨i + 1, j + 1, L.set i x, by go_num, by go_num, by omega, by omega, HLn3.out, HKe.out.1, HKe.out.2, HRow3.out, HG3.out, HB3.out⟩
          case measure => simp [intOf]; omega
        · have HSk := Lib.hid (strike_skip HPre.out HX.out hq)
          have HRow3 := Lib.hid hrow2
          have HD3 := Lib.hid (drop_next HDr.out)
          clear hrow2 hA2 hA9 hq
          go_wp2
          go_roundw
          case rel => exact ⟨i, j + 1, L, rfl, by go_num, by omega, by omega, HLn.out, HSk.out, HD3.out, HRow3.out, hgr2, hbel2⟩
          case measure => simp [intOf]; omega
      · have hjn' : j = n := by omega
        subst hjn'
        have HPre2 : L.take i = l.filter fun x => !p x := by
          have h1 := HPre.out
          rwa [show l.take j = l from List.take_of_length_le (by have := HL.out; omega)] at h1
        obtain ⟨r1, A2, c2, r2, hA2⟩ := cut_slices (k := i) (n := j) (c := c) (by omega) hc1 hcm (.inr ⟨gg, rfl⟩)
        obtain ⟨g2, e1, rfl⟩ := hA2 (by omega)
        cases e1
        obtain ⟨zs, hz, hcl⟩ := run_clear_mem (w := wr) (g := gg) (i := i) (n := j) (c := c2) 0 hij (fun t ht => hrow.cellSome (by show i * 8 + t < j * 8; omega)) (fun t => hrow.frozenAt t)
        have HE := Lib.hid (hrow.shut (k := i) (zs := zs) HK0.out (by omega) hz)
        rw [HPre2] at HE
        have HB := Lib.hid (sc_below hgB zs (i * 8) hbel)
        clear hrow hz
        go_wp2
        go_ret
        exact ⟨_, i, c, rfl, HE.out, HB.out⟩
end Go.Proofs.Sm

namespace Go.Proofs.Sm
open Go.RowKit

set_option maxHeartbeats 4000000 in
set_option maxRecDepth 100000 in
theorem pruned1 (g q1 q2 : Nat) (A : Option Addr) (n c : Nat) (l : List RuleV) (x : MemoryV) (A1 : Option Addr) (n1 c1 : Nat) (A2 : Option Addr) (n2 c2 : Nat) (A3 : Option Addr) (n3 c3 : Nat) (w : World) (hE : Env2 w) (hr0 : checkRulesS l = 0) (hsl : Sl w (Lt w.heap.size) A n l)
    (h1 : w.cell? ⟨q1, 0, none⟩ = some (.pointer (some ⟨g, 0, none⟩))) (h2 : w.cell? ⟨q2, 0, none⟩ = some (.slice A n c)) (h3 : w.cell? ⟨g, 0, none⟩ = some (.slice A n c)) (k1 : q1 < w.heap.size) (k2 : q2 < w.heap.size) (k3 : g < w.heap.size) :
    Calls Tryz.prog 36 #[memVal x A1 n1 c1 A2 n2 c2 A3 n3 c3, .pointer (some ⟨q1, 0, none⟩), .pointer (some ⟨q2, 0, none⟩)] w fun e w' => e = .returned (.bool (!keepM l x)) ∧ Below w.heap.size w w' := by
  have hm : n ≤ 9223372036854775807 := hsl.2.1
  have HL := Lib.hid hsl.1
  have hso := (rules_sorted hr0).1
  have hn5 : n ≤ 500 := by have := (rules_sorted hr0).2; have := HL.out; omega
  have HR0 := Lib.hid hr0
  clear hr0
  unfold memVal
  go_enter Tryz.func36, Tryz.ntmps36
  go_wp2_with fail
  generalize hW0 : w.alloc (.cells #[.string x.name, .string x.action, .slice A1 n1 c1, .int .i64 x.result.code, .string x.result.text, .slice A2 n2 c2, .slice A3 n3 c3, .int .i64 x.result.command] 68) = W
  have hA0 : Arr W w.heap.size 68 (memCells x A1 n1 c1 A2 n2 c2 A3 n3 c3) := by rw [← hW0]; exact mem_box ..
  have hbW : Below w.heap.size w W := by rw [← hW0]; exact fr_alloc (fr_refl w) _
  clear hW0
  obtain ⟨gb, hgb⟩ : ∃ gb, gb = w.heap.size := ⟨_, rfl⟩
  rw [← hgb] at hA0 ⊢
  clear hgb
  refine (steps_find g A n c l x.name W ((hbW.cell (p := ⟨g, 0, none⟩) k3).trans h3) (sl_call hsl hbW (Nat.le_refl _)) hso hn5).mono ?_
  rintro e w1 ⟨rfl, hb1⟩
  have hb01 := fr_call hbW hb1
  have hA1 := hA0.call hb1
  have hgb1 := hA1.lt
  have hz1 := hb01.size
  have d2 := (hb01.cell (p := ⟨q2, 0, none⟩) k2).trans h2
  have b1 := hA1.cell (i := 1) rfl
  clear hA0 hbW hb1
  cases hj : idxName l x.name with
  | none =>
    have HN := Lib.hid (keep_none hj)
    rw [numOr_none]
    clear hj
    go_wp2
    go_quiet (fail)
    go_wp2
    go_ret
    exact ⟨by rw [HN.out]; rfl, below_drewN hb01 _⟩
  | some j =>
    have hjn : j < n := by have := (idxName_some hj).1; rwa [HL.out] at this
    have hjI : (j : Int) < (n : Int) := by omega
    have hj0 : ¬ (j : Int) < 0 := by omega
    obtain ⟨b, o, r, rfl, hbl, hr, R1, r1, e1, R2, r2, e2, R3, r3, e3, R4, r4, e4, R5, r5, e5, ⟨_, g2, g3⟩, _, ⟨t1, t2, t3, t4, _⟩, q0, p1, p2, p3, p4, p5, p6, q7⟩ := (sl_call hsl hb01 (Nat.le_refl _)).rule hjn
    have hri : ActIs w1 r.action R1 r1 R2 r2 R3 r3 R4 r4 := ⟨g2, t1, t2, t3, t4, g3⟩
    have hbb : b < w1.heap.size := hbl
    have hok := rule_actOk HR0.out hr
    have HKp := Lib.hid (keep_some hj hr)
    have HC := Lib.hid (fun w' (hw : Below w1.heap.size w1 w') => act_TextDigest r.action R1 r1 e1 R2 r2 e2 R3 r3 e3 R4 r4 e4 w' (hE.then_ (fr_call hb01 hw)) (hri.then_ hw) hok)
    unfold actVal at HC
    generalize digestS (actTextL r.action) = dg at HC HKp
    rw [numOr_some]
    have hq2 : q2 < w1.heap.size := by omega
    have HK := Lib.hid (show ∀ w', Below w1.heap.size w1 w' → (Below w1.heap.size w1 w' ∧ w'.cell? ⟨q2, 0, none⟩ = some (.slice (some ⟨b, o, none⟩) n c) ∧ w'.cell? ⟨gb, 1, none⟩ = some (.string x.action) ∧
        w'.cell? ⟨b, o + j * 8 + 1, none⟩ = some (.string r.action.tool) ∧ w'.cell? ⟨b, o + j * 8 + 2, none⟩ = some (.slice R1 r1 e1) ∧ w'.cell? ⟨b, o + j * 8 + 3, none⟩ = some (.slice R2 r2 e2) ∧ w'.cell? ⟨b, o + j * 8 + 4, none⟩ = some (.slice R3 r3 e3) ∧
        w'.cell? ⟨b, o + j * 8 + 5, none⟩ = some (.slice R4 r4 e4) ∧ w'.cell? ⟨b, o + j * 8 + 6, none⟩ = some (.int .i64 r.action.time)) from fun w' hw => by
      have f1 : ∀ o, w'.cell? ⟨b, o, none⟩ = w1.cell? ⟨b, o, none⟩ := fun o => hw.cell (p := ⟨b, o, none⟩) hbb
      exact ⟨hw, (hw.cell (p := ⟨q2, 0, none⟩) hq2).trans d2, (hw.cell (p := ⟨gb, 1, none⟩) hgb1).trans b1, (f1 _).trans p1, (f1 _).trans p2, (f1 _).trans p3, (f1 _).trans p4, (f1 _).trans p5, (f1 _).trans p6⟩)
    clear hj hr hri hok q0 q7 h1 h2 h3 t1 t2 t3 t4
    cases hkp : (dg.toList == x.action.toList)
    all_goals
      have HN := Lib.hid (HKp.out.trans hkp)
      go_wp2
      go_region_held3 (fun w' => Below w1.heap.size w1 w' ∧ w'.cell? ⟨q2, 0, none⟩ = some (.slice (some ⟨b, o, none⟩) n c) ∧ w'.cell? ⟨gb, 1, none⟩ = some (.string x.action) ∧
        w'.cell? ⟨b, o + j * 8 + 1, none⟩ = some (.string r.action.tool) ∧ w'.cell? ⟨b, o + j * 8 + 2, none⟩ = some (.slice R1 r1 e1) ∧ w'.cell? ⟨b, o + j * 8 + 3, none⟩ = some (.slice R2 r2 e2) ∧ w'.cell? ⟨b, o + j * 8 + 4, none⟩ = some (.slice R3 r3 e3) ∧
        w'.cell? ⟨b, o + j * 8 + 5, none⟩ = some (.slice R4 r4 e4) ∧ w'.cell? ⟨b, o + j * 8 + 6, none⟩ = some (.int .i64 r.action.time))
        (first | assumption | exact HK.out _ (Below.refl _ w1).drew | exact HK.out _ (fr_call (And.left (by assumption)) hbc))
        (first | (go_at_call 38; refine (HC.out _ (And.left (by assumption))).mono ?_; rintro e wc ⟨rfl, hbc⟩))
      have hb9 : Below w1.heap.size w1 wc := And.left (by assumption)
      go_wp2
      go_ret
      exact ⟨by rw [HN.out]; rfl, fr_call hb01 hb9⟩
set_option maxHeartbeats 4000000 in
set_option maxRecDepth 100000 in
theorem steps_Pruned (A B : Option Addr) (n c m d : Nat) (l : List RuleV) (ms : List MemoryV) (w : World) (hE : Env2 w) (hsl : Sl w (Lt w.heap.size) A n l) (hsl2 : Sl w (Lt w.heap.size) B m ms) :
    Calls Tryz.prog 11 #[.slice A n c, .slice B m d] w (PrunedPost l ms w) := by
  have HL := Lib.hid hsl.1
  have HL2 := Lib.hid hsl2.1
  go_enter Tryz.func11, Tryz.ntmps11
  go_wp2_with fail
  generalize hW0 : w.alloc (.cells #[.slice A n c] 22) = W
  have hA0 : Arr W w.heap.size 22 [.slice A n c] := by rw [← hW0]; exact heap_alloc_new w _
  have hbW : Below w.heap.size w W := by rw [← hW0]; exact fr_alloc (fr_refl w) _
  clear hW0
  obtain ⟨q2, hq2⟩ : ∃ q2, q2 = w.heap.size := ⟨_, rfl⟩
  rw [← hq2] at hA0 ⊢
  clear hq2
  refine (steps_open A n c l W (hE.then_ hbW).toEnv (sl_call hsl hbW (Nat.le_refl _))).mono ?_
  rintro e w0 ⟨vp, rfl, hbad0, hgood0, hb0⟩
  have hb00 := fr_call hbW hb0
  by_cases hr0 : checkRulesS l = 0
  · obtain ⟨g, rfl, hpl0⟩ := hgood0 hr0
    have HR0 := Lib.hid hr0
    have HPR := Lib.hid (pruned_rest (m := ms) hr0)
    rw [hr0]
    have hA1 := hA0.call hb0
    clear hr0 hbad0 hgood0 hA0 hbW hb0
    go_wp2_with fail
    generalize hW2 : w0.alloc (.cells #[.pointer (some ⟨g, 0, none⟩)] 36) = W2
    have hX2 : Arr W2 w0.heap.size 36 [.pointer (some ⟨g, 0, none⟩)] := by rw [← hW2]; exact heap_alloc_new w0 _
    have hb2 : Below w0.heap.size w0 W2 := by rw [← hW2]; exact fr_alloc (fr_refl w0) _
    clear hW2
    obtain ⟨q1, hq1⟩ : ∃ q1, q1 = w0.heap.size := ⟨_, rfl⟩
    rw [← hq1] at hX2 ⊢
    clear hq1
    have hb02 := fr_call hb00 hb2
    refine (steps_CheckMemory B m d ms W2 (hE.then_ hb02).toEnv (sl_call hsl2 hb02 (Nat.le_refl _))).mono ?_
    rintro e w3 ⟨rfl, hb3⟩
    have hb03 := fr_call hb02 hb3
    have hA3 := (hA1.call hb2).call hb3
    have hX3 := hX2.call hb3
    have hP3 := (hpl0.call hb2).call hb3
    clear hA1 hX2 hpl0 hb2 hb3 hb02 hb00
    cases h0 : (checkMemoryS ms == 0)
    · have hne : checkMemoryS ms ≠ 0 := by simpa using h0
      have hbn : (checkMemoryS ms != 0) = true := by simpa using h0
      have HN := Lib.hid hne
      clear hne
      go_wp2
      go_ret2
      exact PrunedPost.bad HPR.out HN.out hb03
    have hzb : checkMemoryS ms = 0 := by simpa using h0
    have HZ2 := Lib.hid hzb
    have HPZ := Lib.hid (HPR.out.trans hzb)
    rw [hzb]
    clear hzb h0
    have hm5 : m ≤ 500 := by have := (memory_parts HZ2.out).1; have := HL2.out; omega
    have HM := Lib.hid (memory_ok HZ2.out)
    go_wp2_with fail
    refine (steps_own B m d ms w3 (Lt w.heap.size) (fun b hb => Nat.lt_of_lt_of_le hb hb03.size) (hsl2.keep (keep_lt hb03)) (by omega) HM.out).mono ?_
    rintro e w4 ⟨v, rfl, hrow, hb4⟩
    have eg : ∀ args w, (callFunc 36 args).run Tryz.prog w = .ok (.enter 36 args) w := enters_of Tryz.func36 (by kernel_rfl) rfl
    obtain ⟨_, mp, np, D, dd, hPA, _⟩ := hP3
    have HD := Lib.hid (deleteFunc_mem 36 eg (.pointer (some ⟨q1, 0, none⟩)) (.pointer (some ⟨q2, 0, none⟩)) (fun x => !keepM l x) v ms w3.heap.size _ w4 hrow hb4.size (by rw [HL2.out]; omega) (fun g hg hh => hh.1 hg)
      fun W x A1 n1 c1 A2 n2 c2 A3 n3 c3 hbW hx => by
        have hbb : Below w3.heap.size w3 W := hb4.trans hbW
        have hbw := fr_call hb03 hbb
        exact pruned1 g q1 q2 A n c l x A1 n1 c1 A2 n2 c2 A3 n3 c3 W (hE.then_ hbw) HR0.out (sl_call hsl hbw (Nat.le_refl _)) ((hX3.call hbb).cell (i := 0) rfl) ((hA3.call hbb).cell (i := 0) rfl) ((hPA.call hbb).cell (i := 0) rfl) (hX3.call hbb).lt (hA3.call hbb).lt (hPA.call hbb).lt)
    have hb04 := fr_call hb03 hb4
    have hzw := hb03.size
    clear hrow hA3 hX3 hPA eg
    go_wp2_with fail
    refine HD.out.mono ?_
    rintro e w5 ⟨A', n', c', rfl, hrow5, hb5⟩
    obtain ⟨A9, c9, e9, h91, h92, hs9⟩ := hrow5.sl
    cases e9
    have hpr : (ms.filter fun x => !(!keepM l x)) = prunedS l ms := by
      rw [prunedS]
      congr 1
      funext x
      simp
    rw [hpr] at h91 hs9
    have HE := Lib.hid (PrunedPost.good (w := w) (A := A') (c := c') HPZ.out h91 h92 hs9 (hb04.trans (hb5.mono hzw)))
    rw [hpr]
    clear hrow5 hs9 hb5 HD
    go_wp2
    go_ret2
    exact HE.out
  · have hne : (checkRulesS l == 0) = false := by rw [beq_eq_false_iff_ne]; exact hr0
    have HN := Lib.hid hr0
    have HV := Lib.hid (pruned_a (m := ms) hr0)
    obtain rfl := hbad0 hr0
    clear hr0 hbad0 hgood0 hA0
    go_wp2
    go_ret2
    exact PrunedPost.bad HV.out HN.out (fr_alloc hb00 _)
end Go.Proofs.Sm
