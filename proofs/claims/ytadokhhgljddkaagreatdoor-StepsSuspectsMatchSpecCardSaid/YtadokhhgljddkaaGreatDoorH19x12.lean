/- Plain words: an order stands as it should. -/
import Derived.Test.YtadokhhgljddkaaGreatDoorH19x11
import Derived.Test.YtadokhhgljddkaaGreatDoorH19x8
import Derived.Test.YtadokhhgljddkaaGreatDoorH19x10
import Derived.Test.YtadokhhgljddkaaGreatDoorH19x7
namespace Go.Proofs.Sm
open Go.RowKit

/-- all blocks of W but one are as they were -/
def KeepO (W : World) (o : Option Nat) (w : World) : Prop := W.heap.size ≤ w.heap.size ∧ ∀ b, b < W.heap.size → o ≠ some b → w.heap[b]? = W.heap[b]?
theorem KeepO.refl (W : World) (o : Option Nat) : KeepO W o W := ⟨Nat.le_refl _, fun _ _ _ => rfl⟩
theorem KeepO.call {W w w' : World} {o : Option Nat} (h : KeepO W o w) (hb : Below w.heap.size w w') : KeepO W o w' :=
  ⟨Nat.le_trans h.1 hb.size, fun b h1 h2 => (hb.block b (Nat.lt_of_lt_of_le h1 h.1)).trans (h.2 b h1 h2)⟩
theorem KeepO.grown {W w w' : World} {o row : Option Nat} (h : KeepO W o w) (hg : w.grownBy w' row) (hr : ∀ g, row = some g → o = some g ∨ W.heap.size ≤ g) : KeepO W o w' :=
  ⟨Nat.le_trans h.1 hg.size, fun b h1 h2 => (hg.block b (Nat.lt_of_lt_of_le h1 h.1) fun e => by
    rcases hr b e.symm with h3 | h3
    · exact h2 h3
    · omega).trans (h.2 b h1 h2)⟩
def JoinedPost (la lb : List MemoryV) (w : World) (e : Ending) (w' : World) : Prop :=
  ∃ v, e = .returned (.tuple #[v, .int .i64 (joinedErr la lb)]) ∧ (joinedErr la lb ≠ 0 → v = .slice none 0 0) ∧
    (joinedErr la lb = 0 → ∃ A n c out, v = .slice A n c ∧ n ≤ c ∧ c ≤ maxLen ∧ JoinedIs la lb out ∧ Sl w' (Lt w'.heap.size) A n out) ∧ Below w.heap.size w w'
theorem JoinedPost.bad {la lb : List MemoryV} {w w' : World} {f : Int} (hf : joinedErr la lb = f) (h0 : f ≠ 0) (hb : Below w.heap.size w w') : JoinedPost la lb w (.returned (.tuple #[.slice none 0 0, .int .i64 f])) w' :=
  ⟨_, by rw [hf], fun _ => rfl, fun h => absurd (hf.symm.trans h) h0, hb⟩
theorem JoinedPost.good {la lb out : List MemoryV} {w w' : World} {A : Option Addr} {n c : Nat} (hf : joinedErr la lb = 0) (hn : n ≤ c) (hc : c ≤ maxLen) (hj : JoinedIs la lb out) (hs : Sl w' (Lt w'.heap.size) A n out) (hb : Below w.heap.size w w') : JoinedPost la lb w (.returned (.tuple #[.slice A n c, .int .i64 0])) w' :=
  ⟨_, by rw [hf], fun h => absurd hf h, fun _ => ⟨A, n, c, out, rfl, hn, hc, hj, hs⟩, hb⟩
theorem joined_a {la lb : List MemoryV} (h : checkMemoryS la ≠ 0) : joinedErr la lb = checkMemoryS la := by rw [joinedErr, if_pos h]
theorem joined_b {la lb : List MemoryV} (h : checkMemoryS la = 0) (h1 : checkMemoryS lb ≠ 0) : joinedErr la lb = checkMemoryS lb := by rw [joinedErr, if_neg (by rw [h]; decide), if_pos h1]
theorem joined_rest {la lb : List MemoryV} (h : checkMemoryS la = 0) (h1 : checkMemoryS lb = 0) : joinedErr la lb = if 500 < ((bothS la lb).length : Int) then 2 else 0 := by rw [joinedErr, if_neg (by rw [h]; decide), if_neg (by rw [h1]; decide)]
theorem mem_cells_one (x : MemoryV) (A1 : Option Addr) (n1 c1 : Nat) (A2 : Option Addr) (n2 c2 : Nat) (A3 : Option Addr) (n3 c3 : Nat) : ∀ u ∈ memCells x A1 n1 c1 A2 n2 c2 A3 n3 c3, u.oneCell' = true := by
  intro u hu
  unfold memCells at hu
  simp only [List.mem_cons, List.not_mem_nil, or_false] at hu
  rcases hu with rfl | rfl | rfl | rfl | rfl | rfl | rfl | rfl <;> rfl
set_option maxHeartbeats 0 in
set_option maxRecDepth 100000 in
theorem steps_Joined (A B : Option Addr) (n c m d : Nat) (la lb : List MemoryV) (w : World) (hE : Env w) (hsl : Sl w (Lt w.heap.size) A n la) (hsl2 : Sl w (Lt w.heap.size) B m lb) :
    Calls Tryz.prog 9 #[.slice A n c, .slice B m d] w (JoinedPost la lb w) := by
  have hm : n ≤ 9223372036854775807 := hsl.2.1
  have hm2 : m ≤ 9223372036854775807 := hsl2.2.1
  have HL := Lib.hid hsl.1
  have HL2 := Lib.hid hsl2.1
  obtain ⟨i0, hi0, hz0, hz1, hz2⟩ := info_parts cl_memory_info
  go_enter Tryz.func9, Tryz.ntmps9
  go_wp2_with fail
  refine (steps_CheckMemory A n c la w hE hsl).mono ?_
  rintro e w1 ⟨rfl, hb1⟩
  cases h0 : (checkMemoryS la == 0)
  · have hne : checkMemoryS la ≠ 0 := by simpa using h0
    have hbn : (checkMemoryS la != 0) = true := by simpa using h0
    have HV := Lib.hid (joined_a (lb := lb) hne)
    have HN := Lib.hid hne
    clear hne
    go_wp2
    go_ret2
    exact JoinedPost.bad HV.out HN.out hb1
  have hza : checkMemoryS la = 0 := by simpa using h0
  have hbn : (checkMemoryS la != 0) = false := by simpa using h0
  have HZ := Lib.hid hza
  rw [hza] at hbn ⊢
  clear hza h0 hbn
  go_wp2_with fail
  refine (steps_CheckMemory B m d lb w1 (hE.then_ hb1) (sl_call hsl2 hb1 (Nat.le_refl _))).mono ?_
  rintro e w2 ⟨rfl, hb2⟩
  have hb02 := fr_call hb1 hb2
  clear hb1 hb2
  cases h0 : (checkMemoryS lb == 0)
  · have hne : checkMemoryS lb ≠ 0 := by simpa using h0
    have hbn : (checkMemoryS lb != 0) = true := by simpa using h0
    have HV := Lib.hid (joined_b HZ.out hne)
    have HN := Lib.hid hne
    clear hne
    go_wp2
    go_ret2
    exact JoinedPost.bad HV.out HN.out hb02
  have hzb : checkMemoryS lb = 0 := by simpa using h0
  have HZ2 := Lib.hid hzb
  rw [hzb]
  clear hzb h0
  have HJ := Lib.hid (joined_rest HZ.out HZ2.out)
  have HM := Lib.hid (memory_ok HZ.out)
  have HM2 := Lib.hid (memory_ok HZ2.out)
  have hn5 : n ≤ 500 := by have := (memory_parts HZ.out).1; have := HL.out; omega
  have hm5 : m ≤ 500 := by have := (memory_parts HZ2.out).1; have := HL2.out; omega
  have hmm := @run_makeMap Tryz.prog
  obtain ⟨mb, hmb⟩ : ∃ mb, mb = w2.heap.size := ⟨_, rfl⟩
  have hwm : w.heap.size ≤ mb := by have := hb02.size; omega
  have hM0 : MapIs Tryz.prog 9 (w2.alloc (.map #[] 0)) mb 0 (setOf (namesOf (la.take 0))) := by
    rw [hmb]
    exact (MapIs.made (P := Tryz.prog) (k := 9) w2).congr fun key => by simp [setOf, namesOf]
  have hb3 := fr_alloc hb02 (.map #[] 0)
  go_wp2_with fail
  rw [← hmb]
  clear hmm hmb hb02
  generalize w2.alloc (.map #[] 0) = W3 at hM0 hb3 ⊢
  go_loopw [27] (fun iv wx => ∃ k nn : Nat, k ≤ n ∧ iv = .int .i64 k ∧ nn ≤ k ∧ MapIs Tryz.prog 9 wx mb nn (setOf (namesOf (la.take k))) ∧ Below w.heap.size w wx) (fun iv _ => n - (intOf iv).toNat)
  case atStart => exact ⟨0, 0, Nat.zero_le _, rfl, Nat.zero_le _, hM0, hb3⟩
  case round =>
    clear hM0 hb3
    obtain ⟨k, nn, hk, rfl, hnn, hM, hbel⟩ := hrel
    by_cases hlt : k < n
    · have hkI : (k : Int) < (n : Int) := by omega
      obtain ⟨b, o, x, rfl, hbb, hx, A1, n1, c1, A2, n2, c2, A3, n3, c3, ⟨z1, z2, z3, z4, z5⟩, _, _, q0, q1, q2, q3, q4, q5, q6, q7⟩ := (hsl.keep (keep_lt hbel)).memory hlt
      have HX := Lib.hid hx; clear hx
      have r0 := (mem_box wr x A1 n1 c1 A2 n2 c2 A3 n3 c3).cell (i := 0) rfl
      have hbx : Below wr.heap.size wr (wr.alloc (.cells #[.string x.name, .string x.action, .slice A1 n1 c1, .int .i64 x.result.code, .string x.result.text, .slice A2 n2 c2, .slice A3 n3 c3, .int .i64 x.result.command] 68)) := fr_alloc (fr_refl wr) _
      have hM1 := hM.call hbx
      have hbel1 := fr_call hbel hbx
      have HS := Lib.hid (fun key => set_more (namesOf (la.take k)) x.name.data.toList key)
      have HNm := Lib.hid (namesOf_more HX.out)
      clear hM hbx hbel
      go_wp2_with (at_mapUpdate; refine wpList_mapUpdate_is _ rfl _ _ _ 39 rfl Tryz.underlying9 Tryz.underlying39 rfl hM1 (by unfold maxLen; omega) x.name z1 (.bool true) rfl rfl ?_; intro w4 hmap4 hg4)
      have hM4 := hmap4.congr HS.out
      rw [← HNm.out] at hM4
      have hb4 := hbel1.grown hg4 hbel1.size fun k hk => by cases hk; omega
      clear hmap4 hg4 hM1 hbel1 r0 q0 q1 q2 q3 q4 q5 q6 q7
      go_wp2
      go_roundw
      case rel => exact ⟨k + 1, nn + 1, by omega, by go_num, by omega, hM4, hb4⟩
      case measure => simp [intOf]; omega
    · rw [List.take_of_length_le (by rw [HL.out]; omega)] at hM
      have hmbl := hM.lt
      go_wp2_with fail
      refine (steps_own A n c la wr (Lt w.heap.size) (fun b hb => Nat.lt_of_lt_of_le hb hbel.size) (hsl.keep (keep_lt hbel)) (by omega) HM.out).mono ?_
      rintro e w4 ⟨vo, rfl, hro, hb4⟩
      have hb04 := fr_call hbel hb4
      go_wp2_with fail
      refine (steps_own B m d lb w4 (Lt w.heap.size) (fun b hb => Nat.lt_of_lt_of_le hb hb04.size) (hsl2.keep (keep_lt hb04)) (by omega) HM2.out).mono ?_
      rintro e w5 ⟨v2, rfl, hr2, hb5⟩
      have hb05 := fr_call hb04 hb5
      have hz4 := hb4.size
      have hz5 := hb5.size
      have hzw := hbel.size
      -- what is copied of the second one
      obtain ⟨A9, c9, rfl, h91, h92, hs9⟩ := hr2.slNew (S := Lt w.heap.size) fun k hk => hk.2.1
      rw [HL2.out] at h91 hs9 hr2 ⊢
      have hown4 : ∀ g, vo.ownBlock = some g → wr.heap.size ≤ g ∧ g < w4.heap.size := fun g hg => ⟨(hro.kind g hg).1, hro.lt2 g hg⟩
      have hK9 : ∀ b, NewS (Lt w.heap.size) w4 w5 b → vo.ownBlock ≠ some b ∧ b < w5.heap.size := fun b hb => ⟨fun e => by
        have h1 := hown4 b e
        rcases hb.1 with h2 | h2
        · have h2 : b < w.heap.size := h2; omega
        · omega, hb.2⟩
      have hs6 := hs9.more hK9
      have hro5 : RowK w5 w.heap.size 68 (fun b => vo.ownBlock ≠ some b ∧ b < w5.heap.size) vo la := ((hro.call hb5).weaken hzw).more (fun b hb => ⟨hb.1, by have := hb.2.2; omega⟩) fun b hb => hb.2
      have hM5 := (hM.call hb4).call hb5
      clear hro hr2 hs9 hM hb4 hb5 hb04 hbel hK9
      have hro6 : RowK w5 w.heap.size 68 (fun b => vo.ownBlock ≠ some b ∧ b < w5.heap.size) vo (la ++ (lb.take 0).filter (newTo la)) := by simpa using hro5
      have hmbo : vo.ownBlock ≠ some mb := fun e => by have := hown4 mb e; omega
      have hmb5 : mb < w5.heap.size := by omega
      have HMap := Lib.hid (fun (wx : World) (hk : KeepO w5 vo.ownBlock wx) => show MapIs Tryz.prog 9 wx mb nn (setOf (namesOf la)) from hM5.keep (hk.2 mb hmb5 hmbo))
      have hwz5 : w.heap.size ≤ w5.heap.size := hb05.size
      have hownw : ∀ g, vo.ownBlock = some g → w.heap.size ≤ g := fun g hg => by have := hown4 g hg; omega
      clear hro5 hM5
      obtain ⟨oo, hoo⟩ : ∃ oo, oo = vo.ownBlock := ⟨_, rfl⟩
      rw [← hoo] at hs6 hro6 HMap hownw
      have hown6 : ∀ g, vo.ownBlock = some g → oo = some g ∨ w5.heap.size ≤ g := fun g hg => .inl (hoo.trans hg)
      clear hown4 hmbo hoo
      go_wp2
      go_loopw [11, 40] (fun v iv wx => ∃ k : Nat, k ≤ m ∧ iv = .int .i64 k ∧ RowK wx w.heap.size 68 (fun b => oo ≠ some b ∧ b < w5.heap.size) v (la ++ (lb.take k).filter (newTo la)) ∧ (∀ g, v.ownBlock = some g → oo = some g ∨ w5.heap.size ≤ g) ∧ KeepO w5 oo wx ∧ Below w.heap.size w wx) (fun _ iv _ => m - (intOf iv).toNat)
      case atStart => exact ⟨0, Nat.zero_le _, rfl, hro6, hown6, KeepO.refl _ _, hb05⟩
      case round =>
        clear hro6 hown6 hb05
        obtain ⟨k, hk, rfl, hrow, hown, hkp, hbel⟩ := hrel
        have HOwn := Lib.hid hown; clear hown
        have hneK : ∀ g, u11.ownBlock = some g → ¬ (oo ≠ some g ∧ g < w5.heap.size) := fun g hg h => by
          rcases HOwn.out g hg with h1 | h1
          · exact h.1 h1
          · omega
        have HNe := Lib.hid hneK; clear hneK
        have hlen : (la ++ (lb.take k).filter (newTo la)).length ≤ 1000 := by
          have h1 := List.length_filter_le (newTo la) (lb.take k)
          have h2 := List.length_take_le k lb
          have h3 := HL.out
          rw [List.length_append]; omega
        by_cases hlt2 : k < m
        · have hkI2 : (k : Int) < (m : Int) := by omega
          obtain ⟨b, o, x, rfl, hbb, hx, A1, n1, c1, A2, n2, c2, A3, n3, c3, ⟨z1, z2, z3, z4, z5⟩, hcs, ⟨s1, s2, s3⟩, q0, q1, q2, q3, q4, q5, q6, q7⟩ := (hs6.keep fun b hb => hkp.2 b hb.2 hb.1).memory hlt2
          have HX := Lib.hid hx; clear hx
          have hbx : Below wr.heap.size wr (wr.alloc (.cells #[.string x.name, .string x.action, .slice A1 n1 c1, .int .i64 x.result.code, .string x.result.text, .slice A2 n2 c2, .slice A3 n3 c3, .int .i64 x.result.command] 68)) := fr_alloc (fr_refl wr) _
          have hk1 := hkp.call hbx
          have hbel1 := fr_call hbel hbx
          have hlk := set_look (HMap.out _ hk1) z1
          have r0 := (mem_box wr x A1 n1 c1 A2 n2 c2 A3 n3 c3).cell (i := 0) rfl
          cases hd : decide (x.name.data.toList ∈ namesOf la)
          · rw [hd] at hlk
            have HF := Lib.hid (show la ++ (lb.take (k + 1)).filter (newTo la) = (la ++ (lb.take k).filter (newTo la)) ++ [x] by rw [filter_take HX.out, newTo, hd]; simp)
            clear hd
            obtain ⟨L, hL⟩ : ∃ L, L = la ++ (lb.take k).filter (newTo la) := ⟨_, rfl⟩
            rw [← hL] at HF hrow hlen
            clear hL
            have hW9 : Below wr.heap.size wr ((wr.alloc (.cells #[.string x.name, .string x.action, .slice A1 n1 c1, .int .i64 x.result.code, .string x.result.text, .slice A2 n2 c2, .slice A3 n3 c3, .int .i64 x.result.command] 68)).alloc (.cells #[.string x.name, .string x.action, .slice A1 n1 c1, .int .i64 x.result.code, .string x.result.text, .slice A2 n2 c2, .slice A3 n3 c3, .int .i64 x.result.command] 68)) := fr_alloc hbx _
            obtain ⟨hK9, rows, hrows, hown9, hrep9⟩ := hrow.call hW9
            have hx9 : Rep.rep ((wr.alloc (.cells #[.string x.name, .string x.action, .slice A1 n1 c1, .int .i64 x.result.code, .string x.result.text, .slice A2 n2 c2, .slice A3 n3 c3, .int .i64 x.result.command] 68)).alloc (.cells #[.string x.name, .string x.action, .slice A1 n1 c1, .int .i64 x.result.code, .string x.result.text, .slice A2 n2 c2, .slice A3 n3 c3, .int .i64 x.result.command] 68)) (fun b => oo ≠ some b ∧ b < w5.heap.size) x (memCells x A1 n1 c1 A2 n2 c2 A3 n3 c3) := by
              have hkk : ∀ b, (oo ≠ some b ∧ b < w5.heap.size) → ((wr.alloc (.cells #[.string x.name, .string x.action, .slice A1 n1 c1, .int .i64 x.result.code, .string x.result.text, .slice A2 n2 c2, .slice A3 n3 c3, .int .i64 x.result.command] 68)).alloc (.cells #[.string x.name, .string x.action, .slice A1 n1 c1, .int .i64 x.result.code, .string x.result.text, .slice A2 n2 c2, .slice A3 n3 c3, .int .i64 x.result.command] 68)).heap[b]? = wr.heap[b]? := fun b hb => hW9.block b (Nat.lt_of_lt_of_le hb.2 hkp.1)
              exact ⟨A1, n1, c1, A2, n2, c2, A3, n3, c3, rfl, ⟨z1, z2, z3, z4, z5⟩, hcs, s1.keep hkk, s2.keep hkk, s3.keep hkk⟩
            have hnew : ∀ (j' : Nat) u, (memCells x A1 n1 c1 A2 n2 c2 A3 n3 c3)[j']? = some u → ((wr.alloc (.cells #[.string x.name, .string x.action, .slice A1 n1 c1, .int .i64 x.result.code, .string x.result.text, .slice A2 n2 c2, .slice A3 n3 c3, .int .i64 x.result.command] 68)).alloc (.cells #[.string x.name, .string x.action, .slice A1 n1 c1, .int .i64 x.result.code, .string x.result.text, .slice A2 n2 c2, .slice A3 n3 c3, .int .i64 x.result.command] 68)).cell? ((⟨wr.heap.size + 1, 0, none⟩ : Addr).add j') = some u := fun j' u hu => by
              have := new_cells (wr.alloc (.cells #[.string x.name, .string x.action, .slice A1 n1 c1, .int .i64 x.result.code, .string x.result.text, .slice A2 n2 c2, .slice A3 n3 c3, .int .i64 x.result.command] 68)) #[.string x.name, .string x.action, .slice A1 n1 c1, .int .i64 x.result.code, .string x.result.text, .slice A2 n2 c2, .slice A3 n3 c3, .int .i64 x.result.command] 68 j' u hu
              rwa [World.size_alloc] at this
            have HNew := Lib.hid hnew
            have H9 := Lib.hid hown9
            have hz9 := hW9.size
            have HRow := Lib.hid hrow
            clear hrow hown9 hnew
            go_wp2_with (at_builtin; refine wpList_append_lies _ rfl _ _ 30 rfl w.heap.size 68 i0 _ 8 136 Tryz.underlying30 hi0 hz0 hz1 hz2 rfl (by decide) _ L.length _ rfl H9.out ⟨wr.heap.size + 1, 0, none⟩ 1 1 (memCells x A1 n1 c1 A2 n2 c2 A3 n3 c3) rfl rfl HNew.out (mem_cells_one x A1 n1 c1 A2 n2 c2 A3 n3 c3) (by decide) (by unfold maxLen; omega) (by omega) (by have := hbel.size; omega) _ rfl ?_)
            intro g' cap w9 hown10 hg9 hat9 hlt9
            have hrow10 := RowK.append (x := x) (r := memCells x A1 n1 c1 A2 n2 c2 A3 n3 c3) hK9 hrows hrep9 hx9 HNe.out hg9 hown10
            rw [← HF.out] at hrow10
            have hk9 := (hkp.call hW9).grown hg9 HOwn.out
            have hb9 := (fr_call hbel hW9).grown hg9 (by have := hbel.size; omega) fun b hb => by
              rcases HOwn.out b hb with h1 | h1
              · exact hownw b h1
              · omega
            have HOw := Lib.hid (show ∀ g, (Value.slice (some ⟨g', 0, none⟩) (L.length + 1) cap).ownBlock = some g → oo = some g ∨ w5.heap.size ≤ g from fun g hg => by
              obtain rfl : g' = g := by simpa [Value.ownBlock] using hg
              rcases hat9 with h1 | h1
              · exact HOwn.out _ h1
              · have := hkp.1
                exact .inr (by omega))
            have HR10 := Lib.hid hrow10
            have HK10 := Lib.hid hk9
            clear hown10 hg9 hat9 hlt9 hrow10 hk9 hx9 hrep9 HNew H9 hlk r0 q0 q1 q2 q3 q4 q5 q6 q7 hk1 hbel1 hbx hW9 HF
            go_wp2
            go_roundw
            case rel => exact ⟨k + 1, by omega, by go_num, HR10.out, HOw.out, HK10.out, hb9⟩
            case measure => simp [intOf]; omega
          · rw [hd] at hlk
            have hF : la ++ (lb.take (k + 1)).filter (newTo la) = la ++ (lb.take k).filter (newTo la) := by rw [filter_take HX.out, newTo, hd]; simp
            have HR1 := Lib.hid (hrow.call hbx)
            rw [← hF] at HR1
            have HK1 := Lib.hid hk1
            clear hd hF hrow hkp
            go_wp2
            go_roundw
            case rel => exact ⟨k + 1, by omega, by go_num, HR1.out, HOwn.out, HK1.out, hbel1⟩
            case measure => simp [intOf]; omega
        · have hall : la ++ (lb.take k).filter (newTo la) = bothS la lb := by rw [List.take_of_length_le (by rw [HL2.out]; omega)]; rfl
          rw [hall] at hrow hlen
          clear hall
          obtain ⟨A7, c7, hv7⟩ := hrow.form
          have HS := Lib.hid (sort_memories u11 (bothS la lb) w.heap.size (fun b => oo ≠ some b ∧ b < w5.heap.size) wr hrow HNe.out (by omega))
          have hrl := hrow
          rw [hv7] at HS hrow ⊢
          clear hv7 hrl
          obtain ⟨N, hN⟩ : ∃ N, N = (bothS la lb).length := ⟨_, rfl⟩
          have HNe2 := Lib.hid hN
          rw [← hN] at HJ HS hrow hlen ⊢
          clear hN
          by_cases hbig : (500 : Int) < (N : Int)
          · have HV := Lib.hid (show joinedErr la lb = 2 by rw [HJ.out, if_pos hbig])
            go_wp2
            go_ret2
            exact JoinedPost.bad HV.out (by decide) hbel
          · have HV := Lib.hid (show joinedErr la lb = 0 by rw [HJ.out, if_neg hbig])
            go_wp2_with fail
            refine HS.out.mono ?_
            rintro e w9 ⟨rfl, l', hp, hso, hrow9, hg9⟩
            have hl9 : l'.length = N := by rw [HNe2.out, hp.length_eq]
            obtain ⟨A', c', hv', h1, h2, h3⟩ := hrow9.sl
            rw [hl9] at hv' h1 h3
            cases hv'
            have hb9 := hbel.grown hg9 hbel.size fun b hb => by
              have := (hrow.kind b hb).1; exact this
            have HE := Lib.hid (JoinedPost.good (A := A7) (n := N) (c := c7) HV.out h1 h2 ⟨hp, hso⟩ h3 hb9)
            clear hrow9 hg9 h3 hrow
            go_wp2
            go_ret2
            exact HE.out
end Go.Proofs.Sm

namespace Go.Proofs.Sm
open Go.RowKit

def mem0 : MemoryV := ⟨⟨#[97]⟩, ⟨#[48, 49, 50, 51, 52, 53, 54, 55, 56, 57, 97, 98, 99, 100, 101, 102]⟩, [], ⟨0, ⟨#[]⟩, [], [], 0⟩⟩
theorem mem0_err : joinedErr [] [mem0] = 0 := by decide +kernel
theorem mem0_out {out : List MemoryV} (h : JoinedIs [] [mem0] out) : out = [mem0] := by
  have h1 : bothS [] [mem0] = [mem0] := by rw [bothS, List.nil_append, List.filter_cons]; rfl
  have h2 := h.1
  rw [h1] at h2
  exact List.perm_singleton.1 h2
set_option maxHeartbeats 1000000 in
set_option maxRecDepth 100000 in
theorem law6_awake (w : World) (hE : Env w) : Calls Tryz.prog 8 #[] w fun e w' => e = .returned (.bool true) ∧ Below w.heap.size w w' := by
  have hb0 : Below w.heap.size w (w.alloc (.cells #[.string mem0.name, .string mem0.action, .slice none 0 0, .int .i64 0, .string ⟨#[]⟩, .slice none 0 0, .slice none 0 0, .int .i64 0] 68)) := fr_alloc (fr_refl w) _
  have hs0 : Sl (w.alloc (.cells #[.string mem0.name, .string mem0.action, .slice none 0 0, .int .i64 0, .string ⟨#[]⟩, .slice none 0 0, .slice none 0 0, .int .i64 0] 68)) (Lt (w.alloc (.cells #[.string mem0.name, .string mem0.action, .slice none 0 0, .int .i64 0, .string ⟨#[]⟩, .slice none 0 0, .slice none 0 0, .int .i64 0] 68)).heap.size) (some ⟨w.heap.size, 0, none⟩) 1 [mem0] := by
    refine ⟨rfl, by unfold maxLen; decide, fun _ => ⟨_, _, rfl, by show w.heap.size < _; rw [World.size_alloc]; omega, fun i x hx => ?_⟩⟩
    cases i with
    | succ i => simp at hx
    | zero =>
      obtain rfl : mem0 = x := by simpa using hx
      refine ⟨memCells mem0 none 0 0 none 0 0 none 0 0, ⟨none, 0, 0, none, 0, 0, none, 0, 0, rfl, ⟨by decide, by decide, by decide, ⟨by decide, by decide⟩, ⟨by decide, by decide⟩⟩, ⟨by decide, by decide, by decide, by decide, by decide, by decide⟩, Sl.nil, Sl.nil, Sl.nil⟩, fun j v hv => ?_⟩
      have hA : Arr (w.alloc (.cells #[.string mem0.name, .string mem0.action, .slice none 0 0, .int .i64 0, .string ⟨#[]⟩, .slice none 0 0, .slice none 0 0, .int .i64 0] 68)) w.heap.size 68 (memCells mem0 none 0 0 none 0 0 none 0 0) := heap_alloc_new w _
      have := hA.cell hv
      simpa using this
  have HJ := Lib.hid (steps_Joined none (some ⟨w.heap.size, 0, none⟩) 0 0 1 1 [] [mem0] _ (hE.then_ hb0) Sl.nil hs0)
  have HB := Lib.hid hb0
  clear hb0 hs0
  go_enter Tryz.func8, Tryz.ntmps8
  go_wp2_with fail
  refine HJ.out.mono ?_
  rintro e w1 ⟨v, rfl, _, hgood, hb1⟩
  obtain ⟨A, n, c, out, rfl, hn, hc, hj, hs⟩ := hgood mem0_err
  obtain rfl := mem0_out hj
  obtain rfl : 1 = n := hs.1
  rw [mem0_err]
  obtain ⟨b, o, x, rfl, _, hx, A1, n1, c1, A2, n2, c2, A3, n3, c3, _, _, _, q0, _⟩ := hs.memory (k := 0) (by decide)
  obtain rfl : mem0 = x := by simpa using hx
  rw [Nat.zero_mul, Nat.add_zero] at q0
  have hbe := fr_call HB.out hb1
  have hnm : (mem0.name.toList == [97]) = true := by decide +kernel
  clear hgood hj hs hb1 HJ hx
  go_wp2
  go_ret
  exact ⟨rfl, hbe⟩
theorem names_le {w : World} {S : Nat → Prop} {A : Option Addr} {n : Nat} {l : List RuleV} (h : Sl w S A n l) (k : Nat) : (nameAt l k).size ≤ maxLen := by
  unfold nameAt
  cases hx : l[k]? with
  | none => simp; unfold maxLen; decide
  | some x =>
    obtain ⟨_, _, y, _, _, hy, hs, _⟩ := h.ruleName (k := k) (by rw [← h.1]; exact (List.getElem?_eq_some_iff.1 hx).1)
    rw [hx] at hy
    obtain rfl := Option.some.inj hy
    exact hs
theorem edges_sizes {l : List RuleV} (h : ∀ k, (nameAt l k).size ≤ maxLen) : ∀ x ∈ edgesS l, x.name.size ≤ maxLen ∧ x.value.size ≤ maxLen := by
  intro x hx
  rw [edgesS, edgesTo, List.mem_flatMap] at hx
  obtain ⟨i, _, hx⟩ := hx
  rw [edgesAt, List.mem_map] at hx
  obtain ⟨k, _, rfl⟩ := hx
  exact ⟨h i, h k⟩
end Go.Proofs.Sm

namespace Go.Proofs.Sm
open Go.RowKit

section
variable {α : Type} [Rep α] {w w' : World} {B : Nat} {e : TypeId} {K : Nat → Prop} {v v' : Value} {l l2 : List α}
/-- the last one is struck -/
theorem RowK.pop {x : α} {g c : Nat} (h : RowK w B e K (.slice (some ⟨g, 0, none⟩) (l.length + 1) c) (l ++ [x])) : RowK w B e K (.slice (some ⟨g, 0, none⟩) l.length c) l := by
  obtain ⟨hk, rows, hr, hown, hrep⟩ := h
  have hlens : ∀ r ∈ rows, r.length = Rep.sz α := by
    intro r hr2
    obtain ⟨i, hi⟩ := List.getElem?_of_mem hr2
    have hi2 := (List.getElem?_eq_some_iff.1 hi).1
    exact Rep.len (hrep i _ r (List.getElem?_eq_getElem (by omega)) hi)
  have hrl : rows.length = l.length + 1 := by rw [hr, List.length_append, List.length_singleton]
  have hfl : ∀ (rs : List (List Value)), (∀ r ∈ rs, r.length = Rep.sz α) → rs.flatten.length = rs.length * Rep.sz α := by
    intro rs
    induction rs with
    | nil => intro _; simp
    | cons r rs ih => intro h; rw [List.flatten_cons, List.length_append, ih fun q hq => h q (by simp [hq]), h r (by simp), List.length_cons, Nat.succ_mul]; omega
  have htl : ∀ r ∈ rows.take l.length, r.length = Rep.sz α := fun r hr => hlens r (List.mem_of_mem_take hr)
  have htn : (rows.take l.length).length = l.length := by rw [List.length_take]; omega
  have hft : (rows.take l.length).flatten = rows.flatten.take (l.length * Rep.sz α) := by
    have h1 : rows.flatten = (rows.take l.length).flatten ++ (rows.drop l.length).flatten := by rw [← List.flatten_append, List.take_append_drop]
    rw [h1, List.take_left' (by rw [hfl _ htl, htn])]
  rw [List.length_append, List.length_singleton] at hown
  refine ⟨hk, rows.take l.length, htn, ⟨by rw [hfl _ htl, htn], .inr ?_⟩, fun i y r hy hri => ?_⟩
  · rcases hown.2 with ⟨h0, _⟩ | ⟨g', cap', cur, hv, hg, hb, h1, h2, h3, h4⟩
    · cases h0
    · cases hv
      refine ⟨g, c, cur, rfl, hg, hb, by omega, h2, h3, ?_⟩
      rw [hft, ← h4, List.take_take, Nat.min_eq_left (Nat.mul_le_mul_right _ (by omega))]
  · have hi : i < l.length := (List.getElem?_eq_some_iff.1 hy).1
    rw [List.getElem?_take_of_lt hi] at hri
    exact hrep i y r (by rw [List.getElem?_append_left hi]; exact hy) hri
theorem RowK.appendAll {rows rows2 : List (List Value)} (hk : ∀ k, K k → k < w.heap.size) (hr : rows.length = l.length)
    (hrep : ∀ (i : Nat) (x : α) (r : List Value), l[i]? = some x → rows[i]? = some r → Rep.rep w K x r) (hr2 : rows2.length = l2.length)
    (hrep2 : ∀ (i : Nat) (x : α) (r : List Value), l2[i]? = some x → rows2[i]? = some r → Rep.rep w K x r) (hne : ∀ g, v.ownBlock = some g → ¬ K g)
    (hg : w.grownBy w' v.ownBlock) (hown' : w'.ownsRow B e (Rep.sz α) v' (l.length + l2.length) (rows.flatten ++ rows2.flatten)) : RowK w' B e K v' (l ++ l2) := by
  have h1 : ∀ k, K k → w'.heap[k]? = w.heap[k]? := fun k hh => hg.block k (hk k hh) fun e2 => hne k e2.symm hh
  refine ⟨fun k hh => Nat.lt_of_lt_of_le (hk k hh) hg.size, rows ++ rows2, by simp [hr, hr2], ?_, ?_⟩
  · rw [List.length_append, List.flatten_append]
    exact hown'
  · intro i y s hy hs
    refine Rep.keep h1 ?_
    by_cases hi : i < l.length
    · rw [List.getElem?_append_left hi] at hy
      rw [List.getElem?_append_left (by omega)] at hs
      exact hrep i y s hy hs
    · rw [List.getElem?_append_right (by omega)] at hy
      rw [List.getElem?_append_right (by omega), hr] at hs
      exact hrep2 _ y s hy hs
end
/-- the bools of a block -/
def boolsAt (w : World) (q : Nat) : List Bool := match w.heap[q]? with
  | some (.cells cs _ _) => cs.toList.map fun v => match v with
    | .bool b => b
    | _ => false
  | _ => []
theorem Arr.bools {w : World} {q : Nat} {ty : TypeId} {s : List Bool} (h : Arr w q ty (s.map Value.bool)) : boolsAt w q = s := by
  unfold boolsAt
  rw [h]
  simp only [List.map_map]
  have : (fun v : Value => match v with | .bool b => b | _ => false) ∘ Value.bool = id := rfl
  rw [this, List.map_id]
end Go.Proofs.Sm

namespace Go.Proofs.Sm
open Go.RowKit

def closErr (l : List RuleV) (ws : List ByteArray) : Int := if 500 < (ws.length : Int) then 2 else if idxAll l ws = none then 9 else 0
theorem clos_large {l : List RuleV} {ws : List ByteArray} (h : (500 : Int) < (ws.length : Int)) : closErr l ws = 2 := by rw [closErr, if_pos h]
theorem clos_none {l : List RuleV} {ws : List ByteArray} (h : ¬ (500 : Int) < (ws.length : Int)) (h1 : idxAll l ws = none) : closErr l ws = 9 := by rw [closErr, if_neg h, if_pos h1]
theorem clos_ok {l : List RuleV} {ws : List ByteArray} {ks : List Nat} (h : ¬ (500 : Int) < (ws.length : Int)) (h1 : idxAll l ws = some ks) : closErr l ws = 0 := by rw [closErr, if_neg h, if_neg (by rw [h1]; simp)]
theorem idx_stop {l : List RuleV} {ws : List ByteArray} {k : Nat} {s : ByteArray} (hs : ws[k]? = some s) (h : idxName l s = none) : idxAll l ws = none := by
  obtain ⟨hk, he⟩ := List.getElem?_eq_some_iff.1 hs
  have h1 : ws = ws.take k ++ s :: ws.drop (k + 1) := by
    rw [← he, ← List.drop_eq_getElem_cons hk, List.take_append_drop]
  rw [h1]
  exact idxAll_none h
theorem idx_more {l : List RuleV} {ws : List ByteArray} {k j : Nat} {s : ByteArray} {ks : List Nat} (hs : ws[k]? = some s) (h : idxAll l (ws.take k) = some ks) (hj : idxName l s = some j) : idxAll l (ws.take (k + 1)) = some (ks ++ [j]) := by
  rw [List.take_add_one, hs, Option.toList_some, idxAll_snoc h, hj]; rfl
theorem numOr_some (j : Nat) : numOr6 (some j) = (j : Int) := rfl
theorem numOr_none : numOr6 none = -1 := rfl
def ClosPost (l : List RuleV) (ws : List ByteArray) (w : World) (e : Ending) (w' : World) : Prop :=
  ∃ v, e = .returned (.tuple #[v, .int .i64 (closErr l ws)]) ∧ (closErr l ws ≠ 0 → v = .slice none 0 0) ∧ (closErr l ws = 0 → ∃ out, PlanIs l ws out ∧ RowK w' w.heap.size 3 (fun _ => False) v out) ∧ Below w.heap.size w w'
theorem ClosPost.bad {l : List RuleV} {ws : List ByteArray} {w w' : World} {f : Int} (hf : closErr l ws = f) (h0 : f ≠ 0) (hb : Below w.heap.size w w') : ClosPost l ws w (.returned (.tuple #[.slice none 0 0, .int .i64 f])) w' :=
  ⟨_, by rw [hf], fun _ => rfl, fun h => absurd (hf.symm.trans h) h0, hb⟩
theorem ClosPost.good {l : List RuleV} {ws : List ByteArray} {w w' : World} {v : Value} {out : List Nat} (hf : closErr l ws = 0) (hp : PlanIs l ws out) (hr : RowK w' w.heap.size 3 (fun _ => False) v out) (hb : Below w.heap.size w w') : ClosPost l ws w (.returned (.tuple #[v, .int .i64 0])) w' :=
  ⟨_, by rw [hf], fun h => absurd hf h, fun _ => ⟨out, hp, hr⟩, hb⟩
theorem dfs_bound {l : List RuleV} (hl : l.length ≤ 500) (s : List Bool) : ∀ n, n ≤ 500 → ((List.range n).map fun i => if s[i]? = some true then 0 else 1 + (needAt (needsS l) i).length).sum ≤ n * 501
  | 0, _ => by simp
  | n + 1, h => by
    have h1 := dfs_bound hl s n (by omega)
    have h2 := needAt_len l n
    rw [List.range_succ, List.map_append, List.sum_append]
    simp only [List.map_cons, List.map_nil, List.sum_cons, List.sum_nil, Nat.add_zero]
    rw [Nat.succ_mul]
    refine Nat.add_le_add h1 ?_
    split
    · exact Nat.zero_le _
    · clear h1; omega
theorem dfs_start {l : List RuleV} (hl : l.length ≤ 500) (s : List Bool) (todo : List Nat) (ht : todo.length ≤ 500) : dfsM (needsS l) s todo ≤ 251001 := by
  have h1 := dfs_bound hl s (needsS l).length (by rw [needsS_length]; exact hl)
  rw [needsS_length] at h1
  rw [dfsM, needsS_length]
  have h2 : l.length * 501 ≤ 250500 := Nat.mul_le_mul_right 501 hl
  omega
theorem todo_le (g : Graph) (s : List Bool) (todo : List Nat) : todo.length ≤ dfsM g s todo := by unfold dfsM; omega
theorem dfsM_len (g : Graph) (s : List Bool) {t t' : List Nat} (h : t.length = t'.length) : dfsM g s t = dfsM g s t' := by unfold dfsM; rw [h]
theorem rules_sorted {l : List RuleV} (h : checkRulesS l = 0) : Sorted (asFiles l) ∧ l.length ≤ 500 := by
  unfold checkRulesS at h
  split at h
  · cases h
  rename_i h0
  split at h
  · rename_i h1; exact absurd h h1
  rename_i h1
  exact ⟨sorted_rules (by simpa using h1), by omega⟩
theorem list_pop {α : Type} {l : List α} (h : 0 < l.length) : ∃ t x, l = t ++ [x] := ⟨l.dropLast, l.getLast (by intro e; subst e; simp at h), (List.dropLast_concat_getLast _).symm⟩
theorem nat_one {w : World} {S : Nat → Prop} {x : Nat} {r : List Value} (h : Rep.rep w S x r) : ∀ u ∈ r, u.oneCell' = true := by
  obtain ⟨rfl, _⟩ := h
  intro u hu
  simp only [List.mem_cons, List.not_mem_nil, or_false] at hu
  subst hu; rfl
theorem flat_nat {w : World} {S S' : Nat → Prop} {x : Nat} {vs : List Value} (h : Rep.rep w S x vs) : Rep.rep w S' x vs := h
end Go.Proofs.Sm

namespace Go.Proofs.Sm
open Go.RowKit

theorem Grid.slFrom {w : World} {B g : Nat} {S : Nat → Prop} {tS tI : TypeId} {rows : List (List Nat)} (h : Grid w B S g tS tI rows) (hm : rows.length ≤ maxLen) : Sl w (fun k => g ≤ k ∧ k < w.heap.size) (some ⟨g, 0, none⟩) rows.length rows := by
  obtain ⟨vs, ha, hl, hr, _⟩ := h.vals
  refine ⟨rfl, hm, fun _ => ⟨g, 0, rfl, ⟨Nat.le_refl _, ha.lt⟩, fun i x hx => ?_⟩⟩
  have hi : i < rows.length := (List.getElem?_eq_some_iff.1 hx).1
  obtain ⟨v, hv⟩ := at_lt (l := vs) (k := i) (by omega)
  obtain ⟨A, c, rfl, h1, h2, h3⟩ := (hr i v x hv hx).1.slFrom
  refine ⟨[.slice A x.length c], ⟨A, _, c, rfl, h1, h2, h3.more fun k hk => ⟨by have := h.low; omega, hk.2⟩⟩, fun j u hu => ?_⟩
  cases j with
  | succ j => simp at hu
  | zero =>
    obtain rfl : Value.slice A x.length c = u := by simpa using hu
    have := ha.cell hv
    simpa [Rep.sz] using this
set_option maxHeartbeats 2000000 in
set_option maxRecDepth 100000 in
theorem ref6_needsF (A : Option Addr) (n c : Nat) (l : List RuleV) (w : World) (hsl : Sl w (Lt w.heap.size) A n l) (hn : n ≤ 1000000) :
    Calls Tryz.prog 23 #[.slice A n c] w fun e w' => e = .returned (.slice (some ⟨w.heap.size, 0, none⟩) n n) ∧ Sl w' (fun k => w.heap.size ≤ k ∧ k < w'.heap.size) (some ⟨w.heap.size, 0, none⟩) n (needsS l) ∧ Below w.heap.size w w' := by
  obtain ⟨s0, hs0, hsz0, hsz1, hsz2⟩ := info_parts ints_info
  obtain ⟨i0, hi0, hz0, hz1, hz2'⟩ := info_parts int_info
  have hm : n ≤ 9223372036854775807 := by omega
  have hng : l.length = n := hsl.1
  obtain ⟨q, hq⟩ : ∃ q, q = w.heap.size := ⟨_, rfl⟩
  rw [← hq] at hsl ⊢
  go_enter Tryz.func23, Tryz.ntmps23
  go_wp2_with (at_make; refine wpList_make_full _ rfl _ _ 54 rfl w.heap.size 41 s0 (.slice none 0 0) 1 Tryz.underlying54 hs0 hsz0 hsz1 .i64 .i64 (n : Nat) (n : Nat) n rfl rfl rfl rfl (by rw [hsz2]; omega) (by unfold maxLen; omega) (Nat.le_refl _) ?_; intro w1 hown hg1)
  rw [show ((.slice none 0 0 : Value).cells) = #[.slice none 0 0] from rfl, made_cells] at hown
  have ha0 := Arr.of_full hown
  have hb1 : Below w.heap.size w w1 := (Below.refl _ w).grown hg1 (Nat.le_refl _) fun k hk => by cases hk
  have hz1' : w.heap.size + 1 ≤ w1.heap.size := ha0.lt
  clear hown hg1
  rw [← hq] at ha0 hb1 hz1' ⊢
  clear hq
  have hgr0 : Grid w1 (q + 1) (fun _ => True) q 41 3 (gridAt l 0 0) := by rw [grid_start, hng]; exact Grid.made ha0 (Nat.lt_succ_self q)
  clear ha0
  go_wp2
  go_loopw [4] (fun i wr => ∃ a : Nat, a ≤ n ∧ i = .int .i64 a ∧ Grid wr (q + 1) (fun _ => True) q 41 3 (gridAt l a 0) ∧ Below q w wr ∧ q + 1 ≤ wr.heap.size) (fun i _ => n - (intOf i).toNat)
  case atStart => exact ⟨0, Nat.zero_le _, rfl, hgr0, hb1, hz1'⟩
  case round =>
    clear hgr0 hb1 hz1'
    obtain ⟨a, ha, rfl, hgr, hbel, hz⟩ := hrel
    by_cases hla : a < n
    · go_wp2
      go_loopw [5] (fun i wr => ∃ k : Nat, k ≤ n ∧ i = .int .i64 k ∧ Grid wr (q + 1) (fun _ => True) q 41 3 (gridAt l a k) ∧ Below q w wr ∧ q + 1 ≤ wr.heap.size) (fun i _ => n - (intOf i).toNat)
      case atStart => exact ⟨0, Nat.zero_le _, rfl, hgr, hbel, hz⟩
      case round =>
        clear hgr hbel hz
        obtain ⟨k, hk, rfl, hgr, hbel, hz⟩ := hrel
        have HG := Lib.hid hgr; clear hgr
        by_cases hlk : k < n
        · have haI : (a : Int) < (n : Int) := by omega
          have hkI : (k : Int) < (n : Int) := by omega
          go_wp2
          go_loopw [6, 7] (fun u j wx => ∃ t : Nat, t ≤ (outsAt l k).length ∧ j = .int .i64 t ∧ u = .bool (((outsAt l k).take t).any fun p => hasB (insAt l a) p) ∧ wx.heap = wr.heap ∧ Below q w wx) (fun _ j _ => (outsAt l k).length - (intOf j).toNat)
          case atStart => exact ⟨0, Nat.zero_le _, rfl, rfl, rfl, hbel⟩
          case round =>
            obtain ⟨t, ht, rfl, rfl, hhp, hbel2⟩ := hrel
            have HH := Lib.hid hhp; clear hhp
            obtain ⟨b, o, x, rfl, _, hx, A1, n1, c1, A2, n2, c2, A3, n3, c3, A4, n4, c4, A5, n5, c5, _, _, ⟨_, _, s3, _, s5⟩, q0, q1, q2, q3, q4, q5, q6, q7⟩ := (hsl.keep (keep_lt hbel2)).rule hlk
            obtain ⟨b', o', y, e', _, hy, A1', n1', c1', A2', n2', c2', A3', n3', c3', A4', n4', c4', A5', n5', c5', _, _, ⟨_, _, s3', _, s5'⟩, r0, r1, r2, r3, r4, r5, r6, r7⟩ := (hsl.keep (keep_lt hbel2)).rule hla
            cases e'
            have ho := Lib.hid (outsAt_some hx)
            have hi := Lib.hid (insAt_some hy)
            have hn3 : n3 = (outsAt l k).length := by rw [ho.out, s3.1]
            have hm3 : n3 ≤ 9223372036854775807 := s3.2.1
            clear hx hy q0 q1 q2 q3 q5 q6 q7 r0 r1 r2 r3 r4 r5 r6
            by_cases hlt : t < n3
            · obtain ⟨b3, o3, p, rfl, _, hp, hps, c3'⟩ := s3.str hlt
              have hp' : (outsAt l k)[t]? = some p := by rw [ho.out]; exact hp
              have HA := Lib.hid (any_hid (p := fun p => hasB (insAt l a) p) hp')
              have HC := Lib.hid (fun W (hW : W.heap = wr.heap) => (ref6_has A5' n5' c5' y.inputs p W (Lt q) (s5'.keep fun k _ => by rw [hW])).mono fun e w' h => (show e = Ending.returned (.bool (hasB (insAt l a) p)) ∧ w' = W from ⟨by rw [hi.out]; exact h.1, h.2.symm⟩))
              clear hp hp' s3 s5'
              generalize ((outsAt l k).take t).any (fun p => hasB (insAt l a) p) = U at HA ⊢
              have htI : (t : Int) < (n3 : Int) := by omega
              cases U
              · go_wp2
                go_quiet ((go_at_call 26; exact Calls.quiet_of_same (HC.out _ rfl)))
                go_wp2
                go_roundw
                case rel => exact ⟨t + 1, by omega, by go_num, by rw [HA.out]; simp, HH.out, below_drewN hbel2 _⟩
                case measure => simp [intOf]; omega
              · go_wp2
                go_quiet (fail)
                go_wp2
                go_roundw
                case rel => exact ⟨t + 1, by omega, by go_num, by rw [HA.out]; simp, HH.out, below_drewN hbel2 _⟩
                case measure => simp [intOf]; omega
            · have HU := Lib.hid (show ((outsAt l k).take t).any (fun p => hasB (insAt l a) p) = usesS l a k by rw [List.take_of_length_le (by omega), usesS])
              rw [HU.out]
              have hgr : Grid wr (q + 1) (fun _ => True) q 41 3 (gridAt l a k) := HG.out.keep (by rw [HH.out]; exact Nat.le_refl _) (by rw [HH.out]) fun _ _ _ _ => by rw [HH.out]
              have hz2 : q + 1 ≤ wr.heap.size := by rw [HH.out]; exact hz
              cases hu : usesS l a k
              · rw [← grid_same hu] at hgr
                have HG2 := Lib.hid hgr; clear hgr
                go_wp2
                go_roundw
                case rel => exact ⟨k + 1, by omega, by go_num, HG2.out, hbel2, hz2⟩
                case measure => simp [intOf]; omega
              · obtain ⟨v, cv, hrow, _, hput⟩ := hgr.at (grid_row (l := l) (k := k) (by omega : a < l.length))
                have HP := Lib.hid hput; clear hput
                obtain ⟨O, oc, rfl, ho1, ho2, _⟩ := hrow.sl
                have hle : ((List.range k).filter (usesS l a)).length ≤ k := by have := List.length_filter_le (usesS l a) (List.range k); simpa using this
                have HU2 := Lib.hid hu; clear hu
                generalize hr : (List.range k).filter (usesS l a) = r at hrow HP ho1 hle cv
                have HR := Lib.hid hr; clear hr
                have hW9 : Below wr.heap.size wr (wr.alloc (.cells #[.int .i64 (k : Int)] 3)) := fr_alloc (fr_refl wr) _
                have row9 := hrow.call hW9
                have hb9 := hbel2.trans (hW9.mono (by omega : q ≤ _))
                obtain ⟨_, rows, hrows, hown9, hrep⟩ := id row9
                have hzz := hW9.size
                clear row9 hgr
                go_wp2_with (at_builtin; refine wpList_append_lies _ rfl _ _ 41 rfl (q + 1) 3 i0 _ 1 8 Tryz.underlying41 hi0 hz0 hz1 hz2' rfl (by decide) _ r.length _ rfl hown9 ⟨wr.heap.size, 0, none⟩ 1 1 [.int .i64 (k : Int)] rfl rfl (new_cells wr #[_] _) (fun u hu => (by simp only [List.mem_cons, List.mem_nil_iff, or_false] at hu; subst hu; rfl)) (by decide) (by unfold maxLen; omega) (by omega) (by omega) _ rfl ?_)
                intro g' cap w5 hown5 hg5 hat5 hlt5
                have row5 := RowK.append (x := k) (r := [.int .i64 (k : Int)]) (fun k hh => hh.elim) hrows hrep ⟨rfl, by unfold maxLen; omega⟩ (fun _ _ hh => hh) hg5 hown5
                have hz5 := hg5.size
                have hG5 := HP.out w5 _ (r ++ [k]) (by omega) (fun k' hk' => (hg5.block k' (by omega) fun e => hk'.2 e.symm).trans (hW9.block k' hk'.1)) row5 (fun b hb => ⟨trivial, by
                  obtain rfl := slice_own6 hb
                  rcases hat5 with h1 | h1
                  · exact .inl h1
                  · exact .inr (by show wr.heap.size ≤ g'; omega)⟩)
                rw [← HR.out, grid_set HU2.out, HR.out] at hG5
                have hq5 : w5.heap[q]? = wr.heap[q]? := (hg5.block q (by omega) fun e => by have := (hrow.kind q e.symm).1; omega).trans (hW9.block q (by omega))
                have hfz : w5.frozen? ⟨q, a, none⟩ = false := by
                  obtain ⟨vs, hv, _⟩ := HG.out.vals
                  exact (hv.keep (hq5.trans (by rw [HH.out]))).frozen a
                have hlt5' : q < w5.heap.size := by omega
                obtain ⟨cv0, hcv0⟩ : ∃ u, w5.cell? ⟨q, a, none⟩ = some u := ⟨_, (World.cell?_of_block (a := ⟨q, a, none⟩) hq5).trans cv⟩
                have hb5 := (hb9.grown hg5 (by omega) fun b hb => by have := (hrow.kind b hb).1; omega).setCell (p := ⟨q, a, none⟩) (Nat.le_refl q) (.slice (some ⟨g', 0, none⟩) (r.length + 1) cap)
                have hz6 : q + 1 ≤ (w5.setCell ⟨q, a, none⟩ (.slice (some ⟨g', 0, none⟩) (r.length + 1) cap)).heap.size := by rw [size_setCell']; omega
                have HG2 := Lib.hid hG5
                clear hG5 HP hown9 hown5 hg5 hat5 hrep row5 hrow hq5
                go_wp2
                go_roundw
                case rel => exact ⟨k + 1, by omega, by go_num, HG2.out, hb5, hz6⟩
                case measure => simp [intOf]; omega
        · obtain rfl : k = n := by omega
          have hgr := HG.out
          rw [show gridAt l a k = gridAt l (a + 1) 0 by rw [← hng, grid_next]] at hgr
          have HG2 := Lib.hid hgr
          clear hgr
          go_wp2
          go_roundw
          case rel => exact ⟨a + 1, by omega, by go_num, HG2.out, hbel, hz⟩
          case measure => simp [intOf]; omega
    · obtain rfl : a = n := by omega
      rw [show gridAt l a 0 = needsS l by rw [← hng, grid_end]] at hgr
      have hS := hgr.slFrom (by rw [needsS_length]; unfold maxLen; omega)
      rw [needsS_length, hng] at hS
      have HS := Lib.hid hS
      clear hgr hS
      go_wp2
      go_ret
      exact ⟨rfl, HS.out, hbel⟩
end Go.Proofs.Sm

namespace Go.Proofs.Sm
open Go.RowKit

theorem Bfs.more {g : Graph} {ks ks' : List Nat} {s : List Bool} {row : List Nat} (h : Bfs g ks s row) (hm : ∀ x ∈ ks, x ∈ ks') : Bfs g ks' s row := ⟨h.len, h.mem, h.nodup, h.lt, fun t h1 h2 => h.least t (fun x hx => h1 x (hm x hx)) h2⟩
/-- blocks of a range are as they were -/
def KeepR (a : Nat) (W w : World) : Prop := W.heap.size ≤ w.heap.size ∧ ∀ b, a ≤ b → b < W.heap.size → w.heap[b]? = W.heap[b]?
theorem KeepR.refl (a : Nat) (W : World) : KeepR a W W := ⟨Nat.le_refl _, fun _ _ _ => rfl⟩
theorem KeepR.call {a : Nat} {W w w' : World} (h : KeepR a W w) (hb : Below w.heap.size w w') : KeepR a W w' :=
  ⟨Nat.le_trans h.1 hb.size, fun b h1 h2 => (hb.block b (Nat.lt_of_lt_of_le h2 h.1)).trans (h.2 b h1 h2)⟩
theorem KeepR.set {a : Nat} {W w : World} (h : KeepR a W w) {p : Addr} (hp : p.block < a) (u : Value) : KeepR a W (w.setCell p u) :=
  ⟨by rw [size_setCell']; exact h.1, fun b h1 h2 => (heap_setCell_other w p b u (by omega)).trans (h.2 b h1 h2)⟩
theorem KeepR.grown {a : Nat} {W w w' : World} {row : Option Nat} (h : KeepR a W w) (hg : w.grownBy w' row) (hr : ∀ g, row = some g → g < a ∨ W.heap.size ≤ g) : KeepR a W w' :=
  ⟨Nat.le_trans h.1 hg.size, fun b h1 h2 => (hg.block b (Nat.lt_of_lt_of_le h2 h.1) fun e => by have := hr b e.symm; omega).trans (h.2 b h1 h2)⟩
theorem planErr_bad {l : List RuleV} {ws : List ByteArray} (h : checkRulesS l ≠ 0) : planErr l ws = checkRulesS l := by rw [planErr, if_pos h]
theorem planErr_clos {l : List RuleV} {ws : List ByteArray} (h : checkRulesS l = 0) : planErr l ws = closErr l ws := by rw [planErr, if_neg (by rw [h]; decide), closErr]
def PlanPost (l : List RuleV) (ws : List ByteArray) (w : World) (e : Ending) (w' : World) : Prop :=
  ∃ v, e = .returned (.tuple #[v, .int .i64 (planErr l ws)]) ∧ (planErr l ws ≠ 0 → v = .slice none 0 0) ∧ (planErr l ws = 0 → ∃ out, PlanIs l ws out ∧ RowK w' w.heap.size 3 (fun _ => False) v out) ∧ Below w.heap.size w w'
theorem PlanPost.bad {l : List RuleV} {ws : List ByteArray} {w w' : World} {f : Int} (hf : planErr l ws = f) (h0 : f ≠ 0) (hb : Below w.heap.size w w') : PlanPost l ws w (.returned (.tuple #[.slice none 0 0, .int .i64 f])) w' :=
  ⟨_, by rw [hf], fun _ => rfl, fun h => absurd (hf.symm.trans h) h0, hb⟩
theorem PlanPost.good {l : List RuleV} {ws : List ByteArray} {w w' : World} {v : Value} {out : List Nat} (hf : planErr l ws = 0) (hp : PlanIs l ws out) (hr : RowK w' w.heap.size 3 (fun _ => False) v out) (hb : Below w.heap.size w w') : PlanPost l ws w (.returned (.tuple #[v, .int .i64 0])) w' :=
  ⟨_, by rw [hf], fun h => absurd hf h, fun _ => ⟨out, hp, hr⟩, hb⟩
end Go.Proofs.Sm

namespace Go.Proofs.Sm
open Go.RowKit

theorem plan_lt {l : List RuleV} {ws : List ByteArray} {out : List Nat} (h : PlanIs l ws out) : (∀ i ∈ out, i < l.length) ∧ out.length ≤ l.length := by
  obtain ⟨ks, s, _, _, rfl⟩ := h
  have hd := orderS_done (needsS l) (isOf s)
  refine ⟨fun i hi => by have := hd.lt i hi; rwa [needsS_length] at this, ?_⟩
  have h1 := hd.most
  have h2 := many_le (needsS l) (isOf s)
  rw [needsS_length] at h2
  omega
theorem flat_str {w : World} {S S' : Nat → Prop} {x : ByteArray} {vs : List Value} (h : Rep.rep w S x vs) : Rep.rep w S' x vs := h
def namesAt (l : List RuleV) (out : List Nat) : List ByteArray := out.map (nameAt l)
theorem namesAt_more {l : List RuleV} {out : List Nat} {k i : Nat} {x : RuleV} (h : out[k]? = some i) (hx : l[i]? = some x) : namesAt l (out.take (k + 1)) = namesAt l (out.take k) ++ [x.name] := by
  rw [namesAt, List.take_add_one, h, List.map_append, ← nameAt_some hx]; rfl
def OrderPost (l : List RuleV) (ws : List ByteArray) (w : World) (e : Ending) (w' : World) : Prop :=
  ∃ v, e = .returned (.tuple #[v, .int .i64 (planErr l ws)]) ∧ (planErr l ws ≠ 0 → v = .slice none 0 0) ∧ (planErr l ws = 0 → ∃ out, PlanIs l ws out ∧ RowK w' w.heap.size 9 (fun _ => False) v (namesAt l out)) ∧ Below w.heap.size w w'
theorem OrderPost.bad {l : List RuleV} {ws : List ByteArray} {w w' : World} {f : Int} (hf : planErr l ws = f) (h0 : f ≠ 0) (hb : Below w.heap.size w w') : OrderPost l ws w (.returned (.tuple #[.slice none 0 0, .int .i64 f])) w' :=
  ⟨_, by rw [hf], fun _ => rfl, fun h => absurd (hf.symm.trans h) h0, hb⟩
theorem OrderPost.good {l : List RuleV} {ws : List ByteArray} {w w' : World} {v : Value} {out : List Nat} (hf : planErr l ws = 0) (hp : PlanIs l ws out) (hr : RowK w' w.heap.size 9 (fun _ => False) v (namesAt l out)) (hb : Below w.heap.size w w') : OrderPost l ws w (.returned (.tuple #[v, .int .i64 0])) w' :=
  ⟨_, by rw [hf], fun h => absurd hf h, fun _ => ⟨out, hp, hr⟩, hb⟩
end Go.Proofs.Sm

namespace Go.Proofs.Sm
open Go.RowKit

end Go.Proofs.Sm

namespace Go.Proofs.Sm
open Go.RowKit

theorem bl_lt : ∀ {a b : List UInt8}, Op.bytesLess a b = true ↔ a < b
  | [], [] => by simp [Op.bytesLess]
  | [], _ :: _ => by simp [Op.bytesLess]
  | _ :: _, [] => by simp [Op.bytesLess]
  | a :: l, b :: m => by
    rw [List.cons_lt_cons_iff, ← bl_lt (a := l) (b := m)]
    simp [Op.bytesLess]
theorem lt_bytes {x y : ByteArray} : ltS x y = true ↔ x.data.toList < y.data.toList := by
  unfold ltS
  rw [Lib.toList_data, Lib.toList_data, bl_lt]
theorem bytes_eq {x y : ByteArray} (h : x.data.toList = y.data.toList) : x = y := by
  obtain ⟨⟨x⟩⟩ := x
  obtain ⟨⟨y⟩⟩ := y
  simp at h
  subst h; rfl
section
variable {f : List UInt8 → Option Value} {l : List ByteArray} {s : ByteArray} {k : Nat}
/-- as it was -/
theorem KeysAre.same {g : List UInt8 → Option Value} (h : KeysAre f l) (hx : l[k - 1]? = some s) (hg : ∀ key, (g key).isSome = true ↔ (f key).isSome = true ∨ key = s.data.toList) : KeysAre g l := by
  refine ⟨h.sorted, fun key => ?_, h.size⟩
  rw [hg, ← h.mem]
  constructor
  · exact fun h1 => .inl h1
  · rintro (h1 | rfl)
    · exact h1
    · exact List.mem_map.2 ⟨s, List.mem_of_getElem? hx, rfl⟩
theorem KeysAre.put {g : List UInt8 → Option Value} (h : KeysAre f l) (hs : s.size ≤ maxLen) (hkl : k ≤ l.length) (hhi : ∀ (i : Nat) (x : ByteArray), k ≤ i → l[i]? = some x → s.data.toList < x.data.toList)
    (hlo : ∀ x, 0 < k → l[k - 1]? = some x → x.data.toList < s.data.toList) (hg : ∀ key, (g key).isSome = true ↔ (f key).isSome = true ∨ key = s.data.toList) : KeysAre g (l.take k ++ ([s] ++ l.drop k)) := by
  have hso := h.sorted
  have htk : ∀ x ∈ l.take k, x.data.toList < s.data.toList := by
    intro x hx
    obtain ⟨i, hi⟩ := List.getElem?_of_mem hx
    rw [List.getElem?_take] at hi
    split at hi
    · rename_i hik
      obtain ⟨y, hy⟩ := at_lt (l := l) (k := k - 1) (by omega)
      have h1 := hlo y (by omega) hy
      by_cases he : i = k - 1
      · rw [he, hy] at hi
        rw [← Option.some.inj hi]; exact h1
      · have h2 := List.pairwise_iff_getElem.1 hso i (k - 1) (List.getElem?_eq_some_iff.1 hi).1 (by omega) (by omega)
        rw [(List.getElem?_eq_some_iff.1 hi).2, (List.getElem?_eq_some_iff.1 hy).2] at h2
        exact List.lt_trans h2 h1
    · cases hi
  have hdk : ∀ x ∈ l.drop k, s.data.toList < x.data.toList := by
    intro x hx
    obtain ⟨i, hi⟩ := List.getElem?_of_mem hx
    rw [List.getElem?_drop] at hi
    exact hhi (k + i) x (by omega) hi
  have hsp : (l.take k ++ l.drop k).Pairwise fun x y => x.data.toList < y.data.toList := by rw [List.take_append_drop]; exact hso
  rw [List.pairwise_append] at hsp
  refine ⟨?_, fun key => ?_, fun x hx => ?_⟩
  · rw [List.pairwise_append]
    refine ⟨hsp.1, ?_, fun x hx y hy => ?_⟩
    · rw [List.singleton_append, List.pairwise_cons]
      exact ⟨hdk, hsp.2.1⟩
    · rcases List.mem_append.1 hy with h1 | h1
      · obtain rfl : y = s := by simpa using h1
        exact htk x hx
      · exact hsp.2.2 x hx y h1
  · rw [hg, ← h.mem, List.map_append, List.map_append, List.mem_append, List.mem_append]
    have hm : key ∈ l.map (·.data.toList) ↔ key ∈ (l.take k).map (·.data.toList) ∨ key ∈ (l.drop k).map (·.data.toList) := by
      rw [← List.mem_append, ← List.map_append, List.take_append_drop]
    rw [hm]
    simp only [List.map_cons, List.map_nil, List.mem_singleton]
    constructor
    · rintro (h1 | h1 | h1)
      · exact .inl (.inl h1)
      · exact .inr h1
      · exact .inl (.inr h1)
    · rintro ((h1 | h1) | h1)
      · exact .inl h1
      · exact .inr (.inr h1)
      · exact .inr (.inl h1)
  · rcases List.mem_append.1 hx with h1 | h1
    · exact h.size x (List.mem_of_mem_take h1)
    · rcases List.mem_append.1 h1 with h1 | h1
      · obtain rfl : x = s := by simpa using h1
        exact hs
      · exact h.size x (List.mem_of_mem_drop h1)
end
end Go.Proofs.Sm

namespace Go.Proofs.Sm
open Go.RowKit

theorem Sl.take {α : Type} [Rep α] {w : World} {S : Nat → Prop} {A : Option Addr} {n k : Nat} {l : List α} (h : Sl w S A n l) (hk : k ≤ n) : Sl w S A k (l.take k) := by
  refine ⟨by rw [List.length_take, h.1]; omega, Nat.le_trans hk h.2.1, fun h0 => ?_⟩
  obtain ⟨b, o, e, hb, hc⟩ := h.2.2 (by omega)
  refine ⟨b, o, e, hb, fun i x hx => hc i x ?_⟩
  rw [List.getElem?_take] at hx
  split at hx
  · exact hx
  · cases hx
theorem Sl.dropStr {w : World} {S : Nat → Prop} {b o n k : Nat} {l : List ByteArray} (h : Sl w S (some ⟨b, o, none⟩) n l) (hk : k ≤ n) : Sl w S (some ⟨b, o + k, none⟩) (n - k) (l.drop k) := by
  refine ⟨by rw [List.length_drop, h.1], Nat.le_trans (Nat.sub_le _ _) h.2.1, fun h0 => ?_⟩
  obtain ⟨b', o', e, hb, hc⟩ := h.2.2 (by omega)
  cases e
  refine ⟨b, o + k, rfl, hb, fun i x hx => ?_⟩
  rw [List.getElem?_drop] at hx
  obtain ⟨vs, h1, h2⟩ := hc (k + i) x hx
  refine ⟨vs, h1, ?_⟩
  simp only [Rep.sz, Nat.mul_one] at h2 ⊢
  rw [Nat.add_assoc]
  exact h2
/-- l[:k] and l[k:] -/
theorem cut_runs {w : World} {B k : Nat} {K : Nat → Prop} {v : Value} {l : List ByteArray} (h : RowK w B 9 K v l) (hk : k ≤ l.length) (hm : l.length ≤ 1000000) :
    ∃ A c A2 c2, v = .slice A l.length c ∧ l.length ≤ c ∧ c ≤ maxLen ∧ (∀ W, (Instr.slice 23 (.slice A l.length c) none (some (.int .i64 (k : Int))) none).run Tryz.prog W = .ok (.slice A k c) W) ∧
      (∀ W, (Instr.slice 23 (.slice A l.length c) (some (.int .i64 (k : Int))) none none).run Tryz.prog W = .ok (.slice A2 (l.length - k) c2) W) ∧
      Sl w (Lt w.heap.size) A k (l.take k) ∧ Sl w (Lt w.heap.size) A2 (l.length - k) (l.drop k) := by
  obtain ⟨A, c, hv, h1, h2, h3⟩ := h.sl
  obtain ⟨_, rows, _, hown, _⟩ := h
  have hmx : c ≤ 9223372036854775807 := h2
  rcases hown.2 with ⟨h4, h5⟩ | ⟨g, cap, cur, h4, _⟩
  · have hl := List.eq_nil_of_length_eq_zero h5
    subst hl
    obtain rfl : k = 0 := by simpa using hk
    rw [h4] at hv
    cases hv
    refine ⟨none, 0, none, 0, h4, Nat.le_refl _, h2, fun W => ?_, fun W => ?_, Sl.nil, Sl.nil⟩
    · simp [go_sem, Tryz.underlying23]
    · simp [go_sem, Tryz.underlying23]
  · rw [h4] at hv
    cases hv
    have hkc : (k : Int) ≤ (c : Int) := by omega
    have hkl : (k : Int) ≤ (l.length : Int) := by omega
    by_cases hc : c = k
    · subst hc
      have hkl2 : l.length = c := by omega
      refine ⟨some ⟨g, 0, none⟩, c, some ⟨g, 0, none⟩, 0, h4, h1, h2, fun W => ?_, fun W => ?_, h3.take hk, ?_⟩
      · simp [go_sem, Tryz.underlying23]
      · simp [go_sem, Tryz.underlying23, hkl2]
      · rw [List.drop_eq_nil_of_le (by omega), show l.length - c = 0 by omega]
        exact ⟨rfl, Nat.zero_le _, fun h => absurd h (by omega)⟩
    · have hck : ¬ k = c := fun e => hc e.symm
      refine ⟨some ⟨g, 0, none⟩, c, some ⟨g, 0 + k, none⟩, c - k, h4, h1, h2, fun W => ?_, fun W => ?_, h3.take hk, h3.dropStr hk⟩
      · simp [go_sem, Tryz.underlying23, hkc]
      · simp [go_sem, Tryz.underlying23, hkl, hc]
end Go.Proofs.Sm

namespace Go.Proofs.Sm
open Go.RowKit

theorem str_one {w : World} {S : Nat → Prop} {x : ByteArray} {r : List Value} (h : Rep.rep w S x r) : ∀ u ∈ r, u.oneCell' = true := by
  obtain ⟨rfl, _⟩ := h
  intro u hu
  simp only [List.mem_cons, List.not_mem_nil, or_false] at hu
  subst hu; rfl
/-- the cells of a row of strings, to be appended -/
theorem str_cells {w : World} {S : Nat → Prop} {A : Option Addr} {n : Nat} {l : List ByteArray} (h : Sl w S A n l) :
    ∃ rows : List (List Value), rows.length = l.length ∧ (∀ (i : Nat) (x : ByteArray) (r : List Value), l[i]? = some x → rows[i]? = some r → Rep.rep w (fun _ => False) x r) ∧ rows.flatten.length = n * 1 ∧
      (0 < n → ∃ ad, A = some ad ∧ ∀ j u, rows.flatten[j]? = some u → w.cell? (ad.add j) = some u) ∧ ∀ u ∈ rows.flatten, u.oneCell' = true := by
  obtain ⟨rows, y1, y2, y3, y4, y5⟩ := sl_cells h (by decide)
  refine ⟨rows, by rw [y1, h.1], fun i x r hx hr => flat_str (y2 i x r hx hr), y3, y4, fun u hu => ?_⟩
  obtain ⟨rr, hrr, hur⟩ := List.mem_flatten.1 hu
  obtain ⟨xx, _, hxx⟩ := y5 rr hrr
  exact str_one hxx u hur
def PutPost (g : List UInt8 → Option Value) (l : List ByteArray) (B : Nat) (w : World) (e : Ending) (w' : World) : Prop :=
  ∃ v' l', e = .returned v' ∧ RowK w' B 9 (fun _ => False) v' l' ∧ KeysAre g l' ∧ l'.length ≤ l.length + 1 ∧ Below w.heap.size w w'
end Go.Proofs.Sm

namespace Go.Proofs.Sm
open Go.RowKit

def srcOf (l : List RuleV) (ins : List ByteArray) : List (List UInt8) := (ins.filter fun p => (idxOut l p).isNone).map (·.data.toList)
def srcK (l : List RuleV) (out : List Nat) : List (List UInt8) := out.flatMap fun i => srcOf l (insAt l i)
theorem srcOf_yes {l : List RuleV} {ins : List ByteArray} {t : Nat} {p : ByteArray} (hp : ins[t]? = some p) (h : idxOut l p = none) : srcOf l (ins.take (t + 1)) = srcOf l (ins.take t) ++ [p.data.toList] := by
  rw [srcOf, List.take_add_one, hp, List.filter_append, List.map_append]
  simp [srcOf, h]
theorem srcOf_no {l : List RuleV} {ins : List ByteArray} {t j : Nat} {p : ByteArray} (hp : ins[t]? = some p) (h : idxOut l p = some j) : srcOf l (ins.take (t + 1)) = srcOf l (ins.take t) := by
  rw [srcOf, List.take_add_one, hp, List.filter_append, List.map_append]
  simp [srcOf, h]
theorem srcK_more {l : List RuleV} {out : List Nat} {k i : Nat} (hi : out[k]? = some i) : srcK l (out.take (k + 1)) = srcK l (out.take k) ++ srcOf l (insAt l i) := by
  rw [srcK, List.take_add_one, hi, List.flatMap_append]; simp [srcK]
theorem set_some (S : List (List UInt8)) (x key : List UInt8) : (setOf (S ++ [x]) key).isSome = true ↔ (setOf S key).isSome = true ∨ key = x := by
  unfold setOf
  by_cases h1 : key ∈ S <;> by_cases h2 : key = x <;> simp [h1, h2]
theorem keys_nil : KeysAre (setOf []) [] := ⟨List.Pairwise.nil, fun key => by simp [setOf], fun x hx => by simp at hx⟩
def SrcPost (l : List RuleV) (ws : List ByteArray) (w : World) (e : Ending) (w' : World) : Prop :=
  ∃ v, e = .returned (.tuple #[v, .int .i64 (planErr l ws)]) ∧ (planErr l ws ≠ 0 → v = .slice none 0 0) ∧ (planErr l ws = 0 → ∃ out L A c, PlanIs l ws out ∧ KeysAre (setOf (srcK l out)) L ∧ v = .slice A L.length c ∧ Sl w' (Lt w'.heap.size) A L.length L) ∧ Below w.heap.size w w'
theorem SrcPost.bad {l : List RuleV} {ws : List ByteArray} {w w' : World} {f : Int} (hf : planErr l ws = f) (h0 : f ≠ 0) (hb : Below w.heap.size w w') : SrcPost l ws w (.returned (.tuple #[.slice none 0 0, .int .i64 f])) w' :=
  ⟨_, by rw [hf], fun _ => rfl, fun h => absurd (hf.symm.trans h) h0, hb⟩
theorem SrcPost.good {l : List RuleV} {ws L : List ByteArray} {w w' : World} {A : Option Addr} {c : Nat} {out : List Nat} (hf : planErr l ws = 0) (hp : PlanIs l ws out) (hk : KeysAre (setOf (srcK l out)) L) (hs : Sl w' (Lt w'.heap.size) A L.length L) (hb : Below w.heap.size w w') :
    SrcPost l ws w (.returned (.tuple #[.slice A L.length c, .int .i64 0])) w' :=
  ⟨_, by rw [hf], fun h => absurd hf h, fun _ => ⟨out, L, A, c, hp, hk, rfl, hs⟩, hb⟩
theorem plan_rules {l : List RuleV} {ws : List ByteArray} (h0 : planErr l ws = 0) : checkRulesS l = 0 := by
  rcases Classical.em (checkRulesS l = 0) with h | h
  · exact h
  · rw [planErr_bad h] at h0; exact absurd h0 h
theorem rules_ok {l : List RuleV} (h : checkRulesS l = 0) : RulesOk l ∧ allOutputsErr l = 0 := by
  unfold checkRulesS at h
  split at h
  · cases h
  rename_i h0
  split at h
  · rename_i h1; exact absurd h h1
  rename_i h1
  split at h
  · rename_i h2; exact absurd h h2
  rename_i h2
  exact ⟨rulesOk_of h0 (by simpa using h1), by simpa using h2⟩
end Go.Proofs.Sm

namespace Go.Proofs.Sm
open Go.RowKit

theorem idxOut_none {l : List RuleV} {p : ByteArray} : idxOut l p = none ↔ twiceS l l.length p = false := by
  rw [idxOut, List.find?_eq_none, twiceS, List.any_eq_false]
theorem of_there {l : List RuleV} {n : Nat} (hn : l.length = n) (p : ByteArray) : (ofAt l n 0 p.data.toList).isSome = (idxOut l p).isSome := by
  subst hn
  rw [ofAt_zero, Option.isSome_map, Bool.eq_iff_iff]
  have h1 := lastOf_none (l := l) (i := l.length) (p := p)
  have h2 := idxOut_none (l := l) (p := p)
  rw [← h2] at h1
  cases h3 : lastOf l l.length p.data.toList <;> cases h4 : idxOut l p <;> simp_all
/-- what both hand back is one list -/
theorem order_both {l : List RuleV} {ws : List ByteArray} {w w1 w2 : World} {v1 v2 : Value} (hbad1 : planErr l ws ≠ 0 → v1 = .slice none 0 0) (hbad2 : planErr l ws ≠ 0 → v2 = .slice none 0 0)
    (hg1 : planErr l ws = 0 → ∃ out, PlanIs l ws out ∧ RowK w1 w.heap.size 9 (fun _ => False) v1 (namesAt l out)) (hb : Below w1.heap.size w1 w2) (B2 : Nat)
    (hg2 : planErr l ws = 0 → ∃ out, PlanIs l ws out ∧ RowK w2 B2 9 (fun _ => False) v2 (namesAt l out)) :
    ∃ (A1 A2 : Option Addr) (k c1 c2 : Nat) (m : List ByteArray), v1 = .slice A1 k c1 ∧ v2 = .slice A2 k c2 ∧ Sl w2 (Lt w2.heap.size) A1 k m ∧ Sl w2 (Lt w2.heap.size) A2 k m := by
  by_cases h0 : planErr l ws = 0
  · obtain ⟨out, p1, r1⟩ := hg1 h0
    obtain ⟨out2, p2, r2⟩ := hg2 h0
    obtain rfl := p1.unique p2
    obtain ⟨A1, c1, rfl, _, _, s1⟩ := r1.sl
    obtain ⟨A2, c2, rfl, _, _, s2⟩ := r2.sl
    exact ⟨A1, A2, _, c1, c2, _, rfl, rfl, sl_call s1 hb (Nat.le_refl _), s2⟩
  · exact ⟨none, none, 0, 0, 0, [], hbad1 h0, hbad2 h0, Sl.nil, Sl.nil⟩
theorem source_both {l : List RuleV} {ws : List ByteArray} {w1 w2 : World} {v1 v2 : Value} (hbad1 : planErr l ws ≠ 0 → v1 = .slice none 0 0) (hbad2 : planErr l ws ≠ 0 → v2 = .slice none 0 0)
    (hg1 : planErr l ws = 0 → ∃ out L A c, PlanIs l ws out ∧ KeysAre (setOf (srcK l out)) L ∧ v1 = .slice A L.length c ∧ Sl w1 (Lt w1.heap.size) A L.length L) (hb : Below w1.heap.size w1 w2)
    (hg2 : planErr l ws = 0 → ∃ out L A c, PlanIs l ws out ∧ KeysAre (setOf (srcK l out)) L ∧ v2 = .slice A L.length c ∧ Sl w2 (Lt w2.heap.size) A L.length L) :
    ∃ (A1 A2 : Option Addr) (k c1 c2 : Nat) (m : List ByteArray), v1 = .slice A1 k c1 ∧ v2 = .slice A2 k c2 ∧ Sl w2 (Lt w2.heap.size) A1 k m ∧ Sl w2 (Lt w2.heap.size) A2 k m := by
  by_cases h0 : planErr l ws = 0
  · obtain ⟨out, L1, A1, c1, p1, k1, e1, s1⟩ := hg1 h0
    obtain ⟨out2, L2, A2, c2, p2, k2, e2, s2⟩ := hg2 h0
    obtain rfl := p1.unique p2
    obtain rfl := k1.unique k2 fun _ => rfl
    exact ⟨A1, A2, _, c1, c2, _, e1, e2, sl_call s1 hb (Nat.le_refl _), s2⟩
  · exact ⟨none, none, 0, 0, 0, [], hbad1 h0, hbad2 h0, Sl.nil, Sl.nil⟩
end Go.Proofs.Sm

namespace Go.Proofs.Sm
open Go.RowKit

theorem list_eq {x y : ByteArray} (h : x.toList = y.toList) : x = y := bytes_eq (by rw [← Lib.toList_data, ← Lib.toList_data]; exact h)
theorem any_eqS {l : List ByteArray} {s : ByteArray} : l.any (eqS s) = true ↔ s ∈ l := by
  rw [List.any_eq_true]
  constructor
  · rintro ⟨x, hx, he⟩
    rw [eqS, beq_iff_eq] at he
    rw [← list_eq he]; exact hx
  · intro h
    exact ⟨s, h, by rw [eqS, beq_iff_eq]⟩
theorem any_noS {l : List ByteArray} {s : ByteArray} : l.any (eqS s) = false ↔ s ∉ l := by
  rw [← any_eqS, Bool.not_eq_true]
theorem idxAll_mem {l : List RuleV} : ∀ {ws : List ByteArray} {ks : List Nat}, idxAll l ws = some ks → ∀ x ∈ ws, ∃ k ∈ ks, idxName l x = some k
  | [], ks, h, x, hx => by simp at hx
  | s :: r, ks, h, x, hx => by
    rw [idxAll] at h
    split at h
    · cases h
    · rename_i j hj
      cases hr : idxAll l r with
      | none => rw [hr] at h; cases h
      | some m =>
        rw [hr] at h; cases h
        rcases List.mem_cons.1 hx with rfl | hx
        · exact ⟨j, by simp, hj⟩
        · obtain ⟨k, hk, he⟩ := idxAll_mem hr x hx
          exact ⟨k, by simp [hk], he⟩
theorem idxAll_of {l : List RuleV} : ∀ {ws : List ByteArray} {ks : List Nat}, idxAll l ws = some ks → ∀ k ∈ ks, ∃ x ∈ ws, idxName l x = some k
  | [], ks, h, k, hk => by cases h; simp at hk
  | s :: r, ks, h, k, hk => by
    rw [idxAll] at h
    split at h
    · cases h
    · rename_i j hj
      cases hr : idxAll l r with
      | none => rw [hr] at h; cases h
      | some m =>
        rw [hr] at h; cases h
        rcases List.mem_cons.1 hk with rfl | hk
        · exact ⟨s, by simp, hj⟩
        · obtain ⟨x, hx, he⟩ := idxAll_of hr k hk
          exact ⟨x, by simp [hx], he⟩
theorem idxName_at {l : List RuleV} {x : ByteArray} {k : Nat} (h : idxName l x = some k) : nameAt l k = x := by
  obtain ⟨_, r, hr, he⟩ := idxName_some h
  rw [nameAt_some hr]
  exact list_eq he
theorem names_one {l : List RuleV} (h : checkRulesS l = 0) {i j : Nat} (hi : i < l.length) (hj : j < l.length) (he : nameAt l i = nameAt l j) : i = j := by
  have hs := (rules_sorted h).1
  obtain ⟨x, hx⟩ := at_lt hi
  obtain ⟨y, hy⟩ := at_lt hj
  rw [nameAt_some hx, nameAt_some hy] at he
  have no : ¬ ltS x.name y.name = true := fun h => ltS_ne h (by rw [he])
  have no' : ¬ ltS y.name x.name = true := fun h => ltS_ne h (by rw [he])
  rcases Nat.lt_trichotomy i j with h1 | h1 | h1
  · exact absurd (hs i j _ _ h1 (asFiles_at hx) (asFiles_at hy)) no
  · exact h1
  · exact absurd (hs j i _ _ h1 (asFiles_at hy) (asFiles_at hx)) no'
theorem edges_mem {l : List RuleV} {e : VarV} : e ∈ edgesS l ↔ ∃ i m, i < l.length ∧ m ∈ needAt (needsS l) i ∧ e = ⟨nameAt l i, nameAt l m⟩ := by
  rw [edgesS, edgesTo, List.mem_flatMap]
  constructor
  · rintro ⟨i, hi, he⟩
    rw [edgesAt, List.mem_map] at he
    obtain ⟨m, hm, rfl⟩ := he
    exact ⟨i, m, by simpa using hi, hm, rfl⟩
  · rintro ⟨i, m, hi, hm, rfl⟩
    exact ⟨i, by simpa using hi, List.mem_map.2 ⟨m, hm, rfl⟩⟩
theorem namesAt_at {l : List RuleV} {out : List Nat} {k : Nat} {x : ByteArray} (h : (namesAt l out)[k]? = some x) : ∃ i, out[k]? = some i ∧ nameAt l i = x := by
  rw [namesAt, List.getElem?_map] at h
  cases ho : out[k]? with
  | none => rw [ho] at h; cases h
  | some i => rw [ho] at h; cases h; exact ⟨i, rfl, rfl⟩
theorem namesAt_take (l : List RuleV) (out : List Nat) (k : Nat) : (namesAt l out).take k = namesAt l (out.take k) := by rw [namesAt, namesAt, List.map_take]
theorem namesAt_drop (l : List RuleV) (out : List Nat) (k : Nat) : (namesAt l out).drop k = namesAt l (out.drop k) := by rw [namesAt, namesAt, List.map_drop]
theorem nodup_take {out : List Nat} (h : out.Nodup) {k i : Nat} (hi : out[k]? = some i) : i ∉ out.take k := by
  intro hm
  obtain ⟨j, hj⟩ := List.getElem?_of_mem hm
  rw [List.getElem?_take] at hj
  split at hj
  · rename_i hlt
    obtain ⟨h1, h2⟩ := List.getElem?_eq_some_iff.1 hi
    obtain ⟨h3, h4⟩ := List.getElem?_eq_some_iff.1 hj
    have := (List.getElem_inj h).1 (h4.trans h2.symm)
    omega
  · cases hj
structure Stood (l : List RuleV) (ws names : List ByteArray) : Prop where
  want : ∀ x ∈ ws, x ∈ names
  once : ∀ (k : Nat) (x : ByteArray), names[k]? = some x → x ∉ names.take k
  behind : ∀ (k : Nat) (x : ByteArray), names[k]? = some x → ∀ e ∈ edgesS l, e.name = x → e.value ∈ names.take k
  used : ∀ (k : Nat) (x : ByteArray), names[k]? = some x → x ∈ ws ∨ ∃ e ∈ edgesS l, e.value = x ∧ e.name ∈ names.drop k
theorem stood {l : List RuleV} {ws : List ByteArray} {out : List Nat} (hc : checkRulesS l = 0) (hp : PlanIs l ws out) : Stood l ws (namesAt l out) := by
  obtain ⟨ks, s, hks, hcl, rfl⟩ := hp
  have hpart := hcl.part hc
  have hd := orderS_done (needsS l) (isOf s)
  have hb := orderS_behind (needsS l) (isOf s)
  have hin : ∀ i, s[i]? = some true → i ∈ (orderS (needsS l) (isOf s)).1 := fun i hi =>
    order_has hpart (by rw [← hcl.len]; exact (List.getElem?_eq_some_iff.1 hi).1) (by simp [isOf, hi])
  have hso : ∀ i ∈ (orderS (needsS l) (isOf s)).1, s[i]? = some true := fun i hi => by simpa [isOf] using hd.inn i hi
  have hlt : ∀ i ∈ (orderS (needsS l) (isOf s)).1, i < l.length := fun i hi => by have := hd.lt i hi; rwa [needsS_length] at this
  generalize (orderS (needsS l) (isOf s)).1 = out at hd hb hin hso hlt
  refine ⟨fun x hx => ?_, fun k x hx hm => ?_, fun k x hx e he hn => ?_, fun k x hx => ?_⟩
  · obtain ⟨k, hk, he⟩ := idxAll_mem hks x hx
    rw [← idxName_at he]
    exact List.mem_map.2 ⟨k, hin k (hcl.has k hk), rfl⟩
  · obtain ⟨i, hi, rfl⟩ := namesAt_at hx
    rw [namesAt_take, namesAt, List.mem_map] at hm
    obtain ⟨j, hj, he⟩ := hm
    have := names_one hc (hlt j (List.mem_of_mem_take hj)) (hlt i (List.mem_of_getElem? hi)) he
    subst this
    exact nodup_take hd.nodup hi hj
  · obtain ⟨i, hi, rfl⟩ := namesAt_at hx
    obtain ⟨i', m, hi', hm, rfl⟩ := edges_mem.1 he
    have := names_one hc hi' (hlt i (List.mem_of_getElem? hi)) hn
    subst this
    rw [namesAt_take]
    exact List.mem_map.2 ⟨m, hb k i' hi m hm, rfl⟩
  · obtain ⟨i, hi, rfl⟩ := namesAt_at hx
    have hm := List.mem_of_getElem? hi
    have := hcl.least (fun i => s[i]? = some true ∧ (i ∈ ks ∨ ∃ j, s[j]? = some true ∧ i ∈ needAt (needsS l) j)) (fun k hk => ⟨hcl.has k hk, .inl hk⟩)
      (fun j hj k hk => ⟨hcl.closed j hj.1 k hk, .inr ⟨j, hj.1, hk⟩⟩) i (hso i hm)
    rcases this.2 with h | ⟨j, hj, hn⟩
    · obtain ⟨x, hx, he⟩ := idxAll_of hks i h
      rw [idxName_at he]; exact .inl hx
    · refine .inr ⟨⟨nameAt l j, nameAt l i⟩, edges_mem.2 ⟨j, i, hlt j (hin j hj), hn, rfl⟩, rfl, ?_⟩
      rw [namesAt_drop]
      refine List.mem_map.2 ⟨j, ?_, rfl⟩
      obtain ⟨p, hp⟩ := List.getElem?_of_mem (hin j hj)
      have h1 := hb p j hp i hn
      have h2 : ¬ p ≤ k := fun hpk => by
        refine nodup_take hd.nodup hi ?_
        exact List.take_subset_take_left _ hpk h1
      rw [List.mem_iff_getElem?]
      exact ⟨p - k, by rw [List.getElem?_drop, show k + (p - k) = p by omega]; exact hp⟩
/-- what is seen of the edges so far -/
def usedS (el : List VarV) (ws rest : List ByteArray) (x : ByteArray) : Bool := ws.any (eqS x) || el.any fun e => e.value.toList == x.toList && rest.any (eqS e.name)
theorem usedS_zero (ws rest : List ByteArray) (x : ByteArray) : usedS [] ws rest x = ws.any (eqS x) := by simp [usedS]
theorem usedS_more {el : List VarV} {ws rest : List ByteArray} {x : ByteArray} {t : Nat} {e : VarV} (h : el[t]? = some e) :
    usedS (el.take (t + 1)) ws rest x = (usedS (el.take t) ws rest x || (e.value.toList == x.toList && rest.any (eqS e.name))) := by
  rw [usedS, usedS, List.take_add_one, h, List.any_append]
  simp [Bool.or_assoc]
theorem Stood.all {l : List RuleV} {ws names : List ByteArray} (h : Stood l ws names) {k : Nat} {x : ByteArray} (hx : names[k]? = some x) : usedS (edgesS l) ws (names.drop k) x = true := by
  rw [usedS, Bool.or_eq_true, any_eqS, List.any_eq_true]
  rcases h.used k x hx with h1 | ⟨e, he, rfl, h2⟩
  · exact .inl h1
  · exact .inr ⟨e, he, by rw [Bool.and_eq_true, any_eqS]; exact ⟨by simp, h2⟩⟩
end Go.Proofs.Sm
