/- Walks: wanted rules and all that they need, by the program. -/
import Derived.Shelf.SlGeneric
import Derived.Shelf.SlSortCmp.WholeK
import Derived.Ground.SlsfProg
import Derived.Test.YtogjdgpghpkgmaaGreatDoorProg
import Derived.Test.YtogjdgpghpkgmaaGreatDoorH10x11
import Derived.Shelf.SlSortCmp.NoneTotal
import Derived.Test.YtogjdgpghpkgmaaGreatDoorH10x8
import Derived.Test.YtogjdgpghpkgmaaGreatDoorH10x10
namespace Go.Proofs
open Go.Shelf
def Tryz.sortf_apiMemory_ren : Go.Shelf.Ren := ⟨fun | 6 => 51 | 15 => 84 | 14 => 83 | 28 => 116 | 29 => 117 | 20 => 108 | 21 => 109 | 22 => 110 | 23 => 111 | 24 => 112 | 25 => 113 | 26 => 114 | 27 => 115 | 46 => 166 | 47 => 167 | 48 => 168 | 49 => 169 | 50 => 170 | 57 => 195 | n => n, fun | 22 => 51 | 24 => 59 | 25 => 99 | 3 => 3 | 39 => 121 | 0 => 0 | 53 => 143 | 55 => 145 | 4 => 4 | 46 => 137 | 45 => 136 | 50 => 79 | 5 => 5 | 9 => 9 | 66 => 179 | 70 => 183 | 76 => 197 | 77 => 198 | n => n, fun | n => n⟩
theorem Tryz.sortf_apiMemory : Go.Proofs.SlLaysF0.n6 Tryz.prog Tryz.sortf_apiMemory_ren := {
  mixed := by kernel_rfl
  f6 := ⟨Tryz.f51.name, by decide, Tryz.func51.trans (congrArg some (by kernel_rfl))⟩
  f14 := ⟨Tryz.f83.name, by decide, Tryz.func83.trans (congrArg some (by kernel_rfl))⟩
  f15 := Tryz.func84.trans (congrArg some (by kernel_rfl))
  f20 := ⟨Tryz.f108.name, by decide, Tryz.func108.trans (congrArg some (by kernel_rfl))⟩
  f21 := ⟨Tryz.f109.name, by decide, Tryz.func109.trans (congrArg some (by kernel_rfl))⟩
  f22 := ⟨Tryz.f110.name, by decide, Tryz.func110.trans (congrArg some (by kernel_rfl))⟩
  f23 := ⟨Tryz.f111.name, by decide, Tryz.func111.trans (congrArg some (by kernel_rfl))⟩
  f24 := ⟨Tryz.f112.name, by decide, Tryz.func112.trans (congrArg some (by kernel_rfl))⟩
  f25 := ⟨Tryz.f113.name, by decide, Tryz.func113.trans (congrArg some (by kernel_rfl))⟩
  f26 := ⟨Tryz.f114.name, by decide, Tryz.func114.trans (congrArg some (by kernel_rfl))⟩
  f27 := ⟨Tryz.f115.name, by decide, Tryz.func115.trans (congrArg some (by kernel_rfl))⟩
  f28 := Tryz.func116.trans (congrArg some (by kernel_rfl))
  f29 := Tryz.func117.trans (congrArg some (by kernel_rfl))
  f46 := ⟨Tryz.f166.name, by decide, Tryz.func166.trans (congrArg some (by kernel_rfl))⟩
  f47 := Tryz.func167.trans (congrArg some (by kernel_rfl))
  f48 := Tryz.func168.trans (congrArg some (by kernel_rfl))
  f49 := ⟨Tryz.f169.name, by decide, Tryz.func169.trans (congrArg some (by kernel_rfl))⟩
  f50 := ⟨Tryz.f170.name, by decide, Tryz.func170.trans (congrArg some (by kernel_rfl))⟩
  f57 := ⟨Tryz.f195.name, by decide, Tryz.func195.trans (congrArg some (by kernel_rfl))⟩
  t0 := Tryz.underlying0
  a0 := Tryz.isAgg0
  z0 := Tryz.sizeOf0
  v0 := Tryz.zeroValue0
  t3 := Tryz.underlying3
  a3 := Tryz.isAgg3
  z3 := Tryz.sizeOf3
  v3 := Tryz.zeroValue3
  t4 := Tryz.underlying4
  a4 := Tryz.isAgg4
  z4 := Tryz.sizeOf4
  v4 := Tryz.zeroValue4
  t5 := Tryz.underlying5
  a5 := Tryz.isAgg5
  z5 := Tryz.sizeOf5
  v5 := Tryz.zeroValue5
  t9 := Tryz.underlying9
  a9 := Tryz.isAgg9
  z9 := Tryz.sizeOf9
  v9 := Tryz.zeroValue9
  t22 := Tryz.underlying51
  a22 := Tryz.isAgg51
  z22 := Tryz.sizeOf51
  v22 := Tryz.zeroValue51
  t25 := Tryz.underlying99
  a25 := Tryz.isAgg99
  z25 := Tryz.sizeOf99
  v25 := Tryz.zeroValue99
  t39 := Tryz.underlying121
  a39 := Tryz.isAgg121
  z39 := Tryz.sizeOf121
  v39 := Tryz.zeroValue121
  t45 := Tryz.underlying136
  a45 := Tryz.isAgg136
  z45 := Tryz.sizeOf136
  v45 := Tryz.zeroValue136
  t46 := Tryz.underlying137
  a46 := Tryz.isAgg137
  z46 := Tryz.sizeOf137
  v46 := Tryz.zeroValue137
  t50 := Tryz.underlying79
  a50 := Tryz.isAgg79
  z50 := Tryz.sizeOf79
  v50 := Tryz.zeroValue79
  t53 := Tryz.underlying143
  a53 := Tryz.isAgg143
  z53 := Tryz.sizeOf143
  v53 := Tryz.zeroValue143
  t55 := Tryz.underlying145
  a55 := Tryz.isAgg145
  z55 := Tryz.sizeOf145
  v55 := Tryz.zeroValue145
  t66 := Tryz.underlying179
  a66 := Tryz.isAgg179
  z66 := Tryz.sizeOf179
  v66 := Tryz.zeroValue179
  t70 := Tryz.underlying183
  a70 := Tryz.isAgg183
  z70 := Tryz.sizeOf183
  v70 := Tryz.zeroValue183
  t76 := Tryz.underlying197
  a76 := Tryz.isAgg197
  z76 := Tryz.sizeOf197
  v76 := Tryz.zeroValue197
  t77 := Tryz.underlying198
  a77 := Tryz.isAgg198
  z77 := Tryz.sizeOf198
  v77 := Tryz.zeroValue198 }
end Go.Proofs

namespace Go.Proofs.Sm
open Go.RowKit Go.Sort Go.Shelf Go.Lib

/-- the cells of what is remembered of one rule -/
structure MemRow where
  name : ByteArray
  action : ByteArray
  text : ByteArray
  s1 : Value
  s2 : Value
  s3 : Value
  code : Int
  command : Int
  one : s1.oneCell' = true ∧ s2.oneCell' = true ∧ s3.oneCell' = true
instance : Inhabited MemRow := ⟨⟨⟨#[]⟩, ⟨#[]⟩, ⟨#[]⟩, .bool false, .bool false, .bool false, 0, 0, rfl, rfl, rfl⟩⟩
def encMem (x : MemRow) : List Value := [.string x.name, .string x.action, x.s1, .int .i64 x.code, .string x.text, x.s2, x.s3, .int .i64 x.command]
instance : Inhabited MemoryV := ⟨⟨⟨#[]⟩, ⟨#[]⟩, [], ⟨0, ⟨#[]⟩, [], [], 0⟩⟩⟩
/-- what is remembered, and how it lies -/
abbrev MemP := MemoryV × MemRow
def encP (p : MemP) : List Value := encMem p.2
def cmpP (p q : MemP) : Int := Lib.compareBytes p.2.name.data.toList q.2.name.data.toList
theorem ltP (p q : MemP) : ltOf cmpP p q = ltS p.2.name q.2.name := by
  unfold ltOf cmpP ltS
  rw [Lib.toList_data, Lib.toList_data, Bool.eq_iff_iff, decide_eq_true_eq, cmp_lt]
theorem swoP : SWO (ltOf cmpP) where
  irrefl x := by rw [ltP]; exact bl_irrefl _
  trans x y z h1 h2 := by rw [ltP] at *; exact bl_trans h1 h2
  ntrans x y z h1 h2 := by
    rw [ltP] at *
    cases h : ltS x.2.name z.2.name with
    | false => rfl
    | true =>
      exfalso
      by_cases e : x.2.name.toList = y.2.name.toList
      · unfold ltS at h h2
        rw [e] at h
        rw [h] at h2; cases h2
      · have h3 : ltS y.2.name x.2.name = true := bl_total h1 e
        have h4 : ltS y.2.name z.2.name = true := bl_trans h3 h
        rw [h4] at h2; cases h2
set_option maxRecDepth 100000 in
theorem steps_Joined1 (x y : MemP) (w : World) :
    Calls Tryz.prog 52 #[.agg (encP x).toArray, .agg (encP y).toArray] w fun e w' => e = .returned (.int .i64 (cmpP x y)) ∧ ∃ q os', w' = grow (w.drewN q) os' := by
  unfold encP encMem cmpP
  generalize hx : x.2 = a
  generalize hy : y.2 = b
  have a1 := a.one.1
  have a2 := a.one.2.1
  have a3 := a.one.2.2
  have b1 := b.one.1
  have b2 := b.one.2.1
  have b3 := b.one.2.2
  have HC := Lib.hid (fun W => Tryz.strings_Compare a.name b.name W)
  generalize Lib.compareBytes a.name.data.toList b.name.data.toList = r at HC ⊢
  clear hx hy
  go_enter Tryz.func52, Tryz.ntmps52
  go_wp2_with (go_at_call 53; refine (HC.out _).mono ?_; rintro e w1 ⟨rfl, rfl⟩)
  go_ret
  exact ⟨rfl, 0, _, by rw [alloc_eq_grow, alloc_eq_grow, grow_grow]; rfl⟩
theorem agg_memory : ∀ w, (isAgg 59).run Tryz.prog w = .ok true w := fun w => Tryz.isAgg59 w
theorem size_memory : ∀ w, (Go.sizeOf 59).run Tryz.prog w = .ok 8 w := fun w => Tryz.sizeOf59 w
end Go.Proofs.Sm

namespace Go.Proofs.Sm
open Go.RowKit Go.Sort Go.Shelf Go.Lib

theorem encP_len (p : MemP) : (encP p).length = 8 := rfl
theorem encP_one (p : MemP) : ∀ v ∈ encP p, v.oneCell' = true := by
  intro v hv
  unfold encP encMem at hv
  simp only [List.mem_cons, List.not_mem_nil, or_false] at hv
  obtain ⟨h1, h2, h3⟩ := p.2.one
  rcases hv with rfl | rfl | rfl | rfl | rfl | rfl | rfl | rfl
  all_goals first | rfl | assumption
/-- a row of memories as pairs of what they are and how they lie -/
theorem row_pairs {w : World} {B : Nat} {e : TypeId} {K : Nat → Prop} {v : Value} {l : List MemoryV} (h : RowK w B e K v l) :
    ∃ ps : List MemP, ps.map Prod.fst = l ∧ (∀ p ∈ ps, Rep.rep w K p.1 (encP p) ∧ p.2.name = p.1.name) ∧ w.ownsRow B e 8 v l.length (ps.flatMap encP) := by
  obtain ⟨_, rows, hr, hown, hrep⟩ := h
  have key : ∀ (l : List MemoryV) (rows : List (List Value)), rows.length = l.length → (∀ (i : Nat) (x : MemoryV) (r : List Value), l[i]? = some x → rows[i]? = some r → Rep.rep w K x r) →
      ∃ ps : List MemP, ps.map Prod.fst = l ∧ (∀ p ∈ ps, Rep.rep w K p.1 (encP p) ∧ p.2.name = p.1.name) ∧ rows.flatten = ps.flatMap encP := by
    intro l
    induction l with
    | nil =>
      intro rows h0 _
      obtain rfl := List.eq_nil_of_length_eq_zero h0
      exact ⟨[], rfl, fun p hp => by simp at hp, rfl⟩
    | cons x l ih =>
      intro rows h0 h1
      cases rows with
      | nil => simp at h0
      | cons r rows =>
        obtain ⟨ps, h2, h3, h4⟩ := ih rows (by simpa using h0) fun i x r hx hr => h1 (i + 1) x r (by simpa using hx) (by simpa using hr)
        have hx := h1 0 x r rfl rfl
        obtain ⟨A, n, c, B, m, d, C, p, q, e0, _⟩ := id hx
        have hx2 := hx
        rw [e0] at hx2
        refine ⟨(x, ⟨x.name, x.action, x.result.text, .slice A n c, .slice B m d, .slice C p q, x.result.code, x.result.command, rfl, rfl, rfl⟩) :: ps, by rw [List.map_cons, h2], fun y hy => ?_, ?_⟩
        · rcases List.mem_cons.1 hy with rfl | hy
          · exact ⟨hx2, rfl⟩
          · exact h3 y hy
        · rw [List.flatten_cons, h4, e0, List.flatMap_cons]; rfl
  obtain ⟨ps, h1, h2, h3⟩ := key l rows hr hrep
  exact ⟨ps, h1, h2, by rw [← h3]; exact hown⟩
theorem row_of_pairs {w w' : World} {B g : Nat} {e : TypeId} {K : Nat → Prop} {v : Value} {ps ps' : List MemP} (hK : ∀ k, K k → k < w.heap.size) (hg : ¬ K g) (hrep : ∀ p ∈ ps, Rep.rep w K p.1 (encP p)) (hp : ps'.Perm ps) (hgr : w.grownBy w' (some g)) (hown : w'.ownsRow B e 8 v ps'.length (ps'.flatMap encP)) : RowK w' B e K v (ps'.map Prod.fst) := by
  refine ⟨fun k hk => Nat.lt_of_lt_of_le (hK k hk) hgr.size, ps'.map encP, by simp, ?_, fun i x r hx hr => ?_⟩
  · rw [List.length_map, ← List.flatMap_def]
    exact hown
  · rw [List.getElem?_map, Option.map_eq_some_iff] at hx hr
    obtain ⟨p, hp1, rfl⟩ := hx
    obtain ⟨q, hq1, rfl⟩ := hr
    rw [hp1] at hq1
    obtain rfl := Option.some.inj hq1
    exact Rep.keep (fun k hk => hgr.block k (hK k hk) fun e => hg (by cases e; exact hk)) (hrep p (hp.mem_iff.1 (List.mem_of_getElem? hp1)))
theorem sort_memories (v : Value) (l : List MemoryV) (B : Nat) (K : Nat → Prop) (w : World) (h : RowK w B 59 K v l) (hne : ∀ g, v.ownBlock = some g → ¬ K g) (hn : l.length ≤ 1000000) :
    Calls Tryz.prog 51 #[v, .func (.func 52) #[] #[]] w fun e w' => e = .returned (.tuple #[]) ∧
      ∃ l', l'.Perm l ∧ (∀ (i j : Nat) (x y : MemoryV), i < j → l'[i]? = some x → l'[j]? = some y → ltS y.name x.name = false) ∧ RowK w' B 59 K v l' ∧ w.grownBy w' v.ownBlock := by
  rcases Nat.eq_zero_or_pos l.length with h0 | h0
  · obtain rfl := List.eq_nil_of_length_eq_zero h0
    obtain ⟨A, c, rfl⟩ := h.form
    have hcon := AnyF.slices_SortFunc_none Tryz.sortf_apiMemory A c (.func (.func 52) #[] #[]) w
    change Calls Tryz.prog 51 _ _ _ at hcon
    refine hcon.mono ?_
    rintro e w' ⟨rfl, rfl⟩
    exact ⟨rfl, [], List.Perm.refl _, fun i j x y _ h => by simp at h, h, World.grownBy.refl _ _⟩
  · obtain ⟨ps, hps, hrep, hown⟩ := row_pairs h
    have hl : ps.length = l.length := by rw [← hps, List.length_map]
    obtain ⟨A, c, rfl⟩ := h.form
    obtain ⟨g, rfl, hgl⟩ : ∃ g, A = some ⟨g, 0, none⟩ ∧ g < w.heap.size := by
      rcases hown.2 with ⟨e0, h1⟩ | ⟨g, cap, cur, e0, h1, h2, _⟩
      · omega
      · cases e0; exact ⟨g, rfl, (Array.getElem?_eq_some_iff.1 h2).1⟩
    have hs : ps.toArray.size = l.length := by rw [List.size_toArray, hl]
    have hown2 : w.ownsRow B 59 8 (.slice (some ⟨g, 0, none⟩) ps.toArray.size c) ps.toArray.size (ps.toArray.toList.flatMap encP) := by rw [hs]; exact hown
    have eg : ∀ args w, (callFunc 52 args).run Tryz.prog w = .ok (.enter 52 args) w := enters_of Tryz.func52 (by kernel_rfl) rfl
    have hcon := AnyQ.slices_SortFunc Tryz.sortf_apiMemory 8 agg_memory size_memory encP encP_len encP_one cmpP swoP 52 #[] g 0 c ps.toArray w eg (fun _ _ _ _ x y => steps_Joined1 x y _) (holdsK_own encP_len hown2) hgl (by rw [hs]; omega)
    change Calls Tryz.prog 51 _ _ _ at hcon
    rw [hs] at hcon
    refine hcon.mono ?_
    rintro e w' ⟨rfl, d', n, os, ⟨hd1, _, hd2⟩, hso, rfl⟩
    rw [hs] at hd1
    have hd3 : d'.toList.Perm ps := by
      have e1 : (d'.extract 0 l.length).toList = d'.toList := by rw [← hd1, Array.extract_size]
      have e2 : (ps.toArray.extract 0 l.length).toList = ps := by rw [← hs, Array.extract_size]
      rwa [e1, e2] at hd2
    obtain ⟨hown3, hgr⟩ := sorted_row encP_len (n := n) (os := os) (d' := d') (by rw [hs, hd1]) hown2
    have hdl : d'.toList.length = l.length := by rw [Array.length_toList, hd1]
    rw [hs, ← hdl] at hown3
    have hrow := row_of_pairs h.1 (hne g rfl) (fun p hp => (hrep p hp).1) hd3 hgr hown3
    refine ⟨rfl, d'.toList.map Prod.fst, ?_, fun i j x y hij hx hy => ?_, ?_, hgr⟩
    · rw [← hps]; exact hd3.map _
    · rw [List.getElem?_map, Option.map_eq_some_iff] at hx hy
      obtain ⟨p, hp1, rfl⟩ := hx
      obtain ⟨q, hq1, rfl⟩ := hy
      have hj : j < d'.size := by
        have := (List.getElem?_eq_some_iff.1 hq1).1
        simpa using this
      have h1 := hso i j (Nat.zero_le _) hij (by omega)
      rw [ltP, getElem!_pos d' i (by omega), getElem!_pos d' j hj] at h1
      rw [Array.getElem?_toList, Array.getElem?_eq_getElem (by omega)] at hp1
      rw [Array.getElem?_toList, Array.getElem?_eq_getElem hj] at hq1
      obtain rfl := Option.some.inj hp1
      obtain rfl := Option.some.inj hq1
      rwa [(hrep _ (hd3.mem_iff.1 (by simp))).2, (hrep _ (hd3.mem_iff.1 (by simp))).2] at h1
    · rw [hdl] at hrow; exact hrow
end Go.Proofs.Sm

namespace Go.Proofs.Sm
open Go.RowKit

/-- all blocks of W but one are as they were -/
def KeepO (W : World) (o : Option Nat) (w : World) : Prop := W.heap.size ≤ w.heap.size ∧ ∀ b, b < W.heap.size → o ≠ some b → w.heap[b]? = W.heap[b]?
theorem KeepO.refl (W : World) (o : Option Nat) : KeepO W o W := ⟨Nat.le_refl _, fun _ _ _ => rfl⟩
theorem KeepO.call {W w w' : World} {o : Option Nat} (h : KeepO W o w) (hb : Below w.heap.size w w') : KeepO W o w' :=
  ⟨Nat.le_trans h.1 hb.size, fun b h1 h2 => (hb.block b (Nat.lt_of_lt_of_le h1 h.1)).trans (h.2 b h1 h2)⟩
theorem KeepO.grown {W w w' : World} {o row : Option Nat} (h : KeepO W o w) (hg : w.grownBy w' row) (hr : ∀ g, row = some g → o = some g ∨ W.heap.size ≤ g) : KeepO W o w' :=
  ⟨Nat.le_trans h.1 hg.size, fun b h1 h2 => (hg.block b (Nat.lt_of_lt_of_le h1 h.1) fun e => by
    rcases hr b e.symm with h3 | h3
    · exact h2 h3
    · omega).trans (h.2 b h1 h2)⟩
def JoinedPost (la lb : List MemoryV) (w : World) (e : Ending) (w' : World) : Prop :=
  ∃ v, e = .returned (.tuple #[v, .int .i64 (joinedErr la lb)]) ∧ (joinedErr la lb ≠ 0 → v = .slice none 0 0) ∧
    (joinedErr la lb = 0 → ∃ A n c out, v = .slice A n c ∧ n ≤ c ∧ c ≤ maxLen ∧ JoinedIs la lb out ∧ Sl w' (Lt w'.heap.size) A n out) ∧ Below w.heap.size w w'
theorem JoinedPost.bad {la lb : List MemoryV} {w w' : World} {f : Int} (hf : joinedErr la lb = f) (h0 : f ≠ 0) (hb : Below w.heap.size w w') : JoinedPost la lb w (.returned (.tuple #[.slice none 0 0, .int .i64 f])) w' :=
  ⟨_, by rw [hf], fun _ => rfl, fun h => absurd (hf.symm.trans h) h0, hb⟩
theorem JoinedPost.good {la lb out : List MemoryV} {w w' : World} {A : Option Addr} {n c : Nat} (hf : joinedErr la lb = 0) (hn : n ≤ c) (hc : c ≤ maxLen) (hj : JoinedIs la lb out) (hs : Sl w' (Lt w'.heap.size) A n out) (hb : Below w.heap.size w w') : JoinedPost la lb w (.returned (.tuple #[.slice A n c, .int .i64 0])) w' :=
  ⟨_, by rw [hf], fun h => absurd hf h, fun _ => ⟨A, n, c, out, rfl, hn, hc, hj, hs⟩, hb⟩
theorem joined_a {la lb : List MemoryV} (h : checkMemoryS la ≠ 0) : joinedErr la lb = checkMemoryS la := by rw [joinedErr, if_pos h]
theorem joined_b {la lb : List MemoryV} (h : checkMemoryS la = 0) (h1 : checkMemoryS lb ≠ 0) : joinedErr la lb = checkMemoryS lb := by rw [joinedErr, if_neg (by rw [h]; decide), if_pos h1]
theorem joined_rest {la lb : List MemoryV} (h : checkMemoryS la = 0) (h1 : checkMemoryS lb = 0) : joinedErr la lb = if 500 < ((bothS la lb).length : Int) then 2 else 0 := by rw [joinedErr, if_neg (by rw [h]; decide), if_neg (by rw [h1]; decide)]
theorem mem_cells_one (x : MemoryV) (A1 : Option Addr) (n1 c1 : Nat) (A2 : Option Addr) (n2 c2 : Nat) (A3 : Option Addr) (n3 c3 : Nat) : ∀ u ∈ memCells x A1 n1 c1 A2 n2 c2 A3 n3 c3, u.oneCell' = true := by
  intro u hu
  unfold memCells at hu
  simp only [List.mem_cons, List.not_mem_nil, or_false] at hu
  rcases hu with rfl | rfl | rfl | rfl | rfl | rfl | rfl | rfl <;> rfl
set_option maxHeartbeats 0 in
set_option maxRecDepth 100000 in
theorem steps_Joined (A B : Option Addr) (n c m d : Nat) (la lb : List MemoryV) (w : World) (hE : Env w) (hsl : Sl w (Lt w.heap.size) A n la) (hsl2 : Sl w (Lt w.heap.size) B m lb) :
    Calls Tryz.prog 23 #[.slice A n c, .slice B m d] w (JoinedPost la lb w) := by
  have hm : n ≤ 9223372036854775807 := hsl.2.1
  have hm2 : m ≤ 9223372036854775807 := hsl2.2.1
  have HL := Lib.hid hsl.1
  have HL2 := Lib.hid hsl2.1
  obtain ⟨i0, hi0, hz0, hz1, hz2⟩ := info_parts cl_memory_info
  go_enter Tryz.func23, Tryz.ntmps23
  go_wp2_with fail
  refine (steps_CheckMemory A n c la w hE hsl).mono ?_
  rintro e w1 ⟨rfl, hb1⟩
  cases h0 : (checkMemoryS la == 0)
  · have hne : checkMemoryS la ≠ 0 := by simpa using h0
    have hbn : (checkMemoryS la != 0) = true := by simpa using h0
    have HV := Lib.hid (joined_a (lb := lb) hne)
    have HN := Lib.hid hne
    clear hne
    go_wp2
    go_ret2
    exact JoinedPost.bad HV.out HN.out hb1
  have hza : checkMemoryS la = 0 := by simpa using h0
  have hbn : (checkMemoryS la != 0) = false := by simpa using h0
  have HZ := Lib.hid hza
  rw [hza] at hbn ⊢
  clear hza h0 hbn
  go_wp2_with fail
  refine (steps_CheckMemory B m d lb w1 (hE.then_ hb1) (sl_call hsl2 hb1 (Nat.le_refl _))).mono ?_
  rintro e w2 ⟨rfl, hb2⟩
  have hb02 := fr_call hb1 hb2
  clear hb1 hb2
  cases h0 : (checkMemoryS lb == 0)
  · have hne : checkMemoryS lb ≠ 0 := by simpa using h0
    have hbn : (checkMemoryS lb != 0) = true := by simpa using h0
    have HV := Lib.hid (joined_b HZ.out hne)
    have HN := Lib.hid hne
    clear hne
    go_wp2
    go_ret2
    exact JoinedPost.bad HV.out HN.out hb02
  have hzb : checkMemoryS lb = 0 := by simpa using h0
  have HZ2 := Lib.hid hzb
  rw [hzb]
  clear hzb h0
  have HJ := Lib.hid (joined_rest HZ.out HZ2.out)
  have HM := Lib.hid (memory_ok HZ.out)
  have HM2 := Lib.hid (memory_ok HZ2.out)
  have hn5 : n ≤ 500 := by have := (memory_parts HZ.out).1; have := HL.out; omega
  have hm5 : m ≤ 500 := by have := (memory_parts HZ2.out).1; have := HL2.out; omega
  have hmm := @run_makeMap Tryz.prog
  obtain ⟨mb, hmb⟩ : ∃ mb, mb = w2.heap.size := ⟨_, rfl⟩
  have hwm : w.heap.size ≤ mb := by have := hb02.size; omega
  have hM0 : MapIs Tryz.prog 9 (w2.alloc (.map #[] 0)) mb 0 (setOf (namesOf (la.take 0))) := by
    rw [hmb]
    exact (MapIs.made (P := Tryz.prog) (k := 9) w2).congr fun key => by simp [setOf, namesOf]
  have hb3 := fr_alloc hb02 (.map #[] 0)
  go_wp2_with fail
  rw [← hmb]
  clear hmm hmb hb02
  generalize w2.alloc (.map #[] 0) = W3 at hM0 hb3 ⊢
  go_loopw [27] (fun iv wx => ∃ k nn : Nat, k ≤ n ∧ iv = .int .i64 k ∧ nn ≤ k ∧ MapIs Tryz.prog 9 wx mb nn (setOf (namesOf (la.take k))) ∧ Below w.heap.size w wx) (fun iv _ => n - (intOf iv).toNat)
  case atStart => exact ⟨0, 0, Nat.zero_le _, rfl, Nat.zero_le _, hM0, hb3⟩
  case round =>
    clear hM0 hb3
    obtain ⟨k, nn, hk, rfl, hnn, hM, hbel⟩ := hrel
    by_cases hlt : k < n
    · have hkI : (k : Int) < (n : Int) := by omega
      obtain ⟨b, o, x, rfl, hbb, hx, A1, n1, c1, A2, n2, c2, A3, n3, c3, ⟨z1, z2, z3, z4, z5⟩, _, _, q0, q1, q2, q3, q4, q5, q6, q7⟩ := (hsl.keep (keep_lt hbel)).memory hlt
      have HX := Lib.hid hx; clear hx
      have r0 := (mem_box wr x A1 n1 c1 A2 n2 c2 A3 n3 c3).cell (i := 0) rfl
      have hbx : Below wr.heap.size wr (wr.alloc (.cells #[.string x.name, .string x.action, .slice A1 n1 c1, .int .i64 x.result.code, .string x.result.text, .slice A2 n2 c2, .slice A3 n3 c3, .int .i64 x.result.command] 59)) := fr_alloc (fr_refl wr) _
      have hM1 := hM.call hbx
      have hbel1 := fr_call hbel hbx
      have HS := Lib.hid (fun key => set_more (namesOf (la.take k)) x.name.data.toList key)
      have HNm := Lib.hid (namesOf_more HX.out)
      clear hM hbx hbel
      go_wp2_with (at_mapUpdate; refine wpList_mapUpdate_is _ rfl _ _ _ 72 rfl Tryz.underlying9 Tryz.underlying72 rfl hM1 (by unfold maxLen; omega) x.name z1 (.bool true) rfl rfl ?_; intro w4 hmap4 hg4)
      have hM4 := hmap4.congr HS.out
      rw [← HNm.out] at hM4
      have hb4 := hbel1.grown hg4 hbel1.size fun k hk => by cases hk; omega
      clear hmap4 hg4 hM1 hbel1 r0 q0 q1 q2 q3 q4 q5 q6 q7
      go_wp2
      go_roundw
      case rel => exact ⟨k + 1, nn + 1, by omega, by go_num, by omega, hM4, hb4⟩
      case measure => simp [intOf]; omega
    · rw [List.take_of_length_le (by rw [HL.out]; omega)] at hM
      have hmbl := hM.lt
      go_wp2_with fail
      refine (steps_own A n c la wr (Lt w.heap.size) (fun b hb => Nat.lt_of_lt_of_le hb hbel.size) (hsl.keep (keep_lt hbel)) (by omega) HM.out).mono ?_
      rintro e w4 ⟨vo, rfl, hro, hb4⟩
      have hb04 := fr_call hbel hb4
      go_wp2_with fail
      refine (steps_own B m d lb w4 (Lt w.heap.size) (fun b hb => Nat.lt_of_lt_of_le hb hb04.size) (hsl2.keep (keep_lt hb04)) (by omega) HM2.out).mono ?_
      rintro e w5 ⟨v2, rfl, hr2, hb5⟩
      have hb05 := fr_call hb04 hb5
      have hz4 := hb4.size
      have hz5 := hb5.size
      have hzw := hbel.size
      -- what is copied of the second one
      obtain ⟨A9, c9, rfl, h91, h92, hs9⟩ := hr2.slNew (S := Lt w.heap.size) fun k hk => hk.2.1
      rw [HL2.out] at h91 hs9 hr2 ⊢
      have hown4 : ∀ g, vo.ownBlock = some g → wr.heap.size ≤ g ∧ g < w4.heap.size := fun g hg => ⟨(hro.kind g hg).1, hro.lt2 g hg⟩
      have hK9 : ∀ b, NewS (Lt w.heap.size) w4 w5 b → vo.ownBlock ≠ some b ∧ b < w5.heap.size := fun b hb => ⟨fun e => by
        have h1 := hown4 b e
        rcases hb.1 with h2 | h2
        · have h2 : b < w.heap.size := h2; omega
        · omega, hb.2⟩
      have hs6 := hs9.more hK9
      have hro5 : RowK w5 w.heap.size 59 (fun b => vo.ownBlock ≠ some b ∧ b < w5.heap.size) vo la := ((hro.call hb5).weaken hzw).more (fun b hb => ⟨hb.1, by have := hb.2.2; omega⟩) fun b hb => hb.2
      have hM5 := (hM.call hb4).call hb5
      clear hro hr2 hs9 hM hb4 hb5 hb04 hbel hK9
      have hro6 : RowK w5 w.heap.size 59 (fun b => vo.ownBlock ≠ some b ∧ b < w5.heap.size) vo (la ++ (lb.take 0).filter (newTo la)) := by simpa using hro5
      have hmbo : vo.ownBlock ≠ some mb := fun e => by have := hown4 mb e; omega
      have hmb5 : mb < w5.heap.size := by omega
      have HMap := Lib.hid (fun (wx : World) (hk : KeepO w5 vo.ownBlock wx) => show MapIs Tryz.prog 9 wx mb nn (setOf (namesOf la)) from hM5.keep (hk.2 mb hmb5 hmbo))
      have hwz5 : w.heap.size ≤ w5.heap.size := hb05.size
      have hownw : ∀ g, vo.ownBlock = some g → w.heap.size ≤ g := fun g hg => by have := hown4 g hg; omega
      clear hro5 hM5
      obtain ⟨oo, hoo⟩ : ∃ oo, oo = vo.ownBlock := ⟨_, rfl⟩
      rw [← hoo] at hs6 hro6 HMap hownw
      have hown6 : ∀ g, vo.ownBlock = some g → oo = some g ∨ w5.heap.size ≤ g := fun g hg => .inl (hoo.trans hg)
      clear hown4 hmbo hoo
      go_wp2
      go_loopw [11, 40] (fun v iv wx => ∃ k : Nat, k ≤ m ∧ iv = .int .i64 k ∧ RowK wx w.heap.size 59 (fun b => oo ≠ some b ∧ b < w5.heap.size) v (la ++ (lb.take k).filter (newTo la)) ∧ (∀ g, v.ownBlock = some g → oo = some g ∨ w5.heap.size ≤ g) ∧ KeepO w5 oo wx ∧ Below w.heap.size w wx) (fun _ iv _ => m - (intOf iv).toNat)
      case atStart => exact ⟨0, Nat.zero_le _, rfl, hro6, hown6, KeepO.refl _ _, hb05⟩
      case round =>
        clear hro6 hown6 hb05
        obtain ⟨k, hk, rfl, hrow, hown, hkp, hbel⟩ := hrel
        have HOwn := Lib.hid hown; clear hown
        have hneK : ∀ g, u11.ownBlock = some g → ¬ (oo ≠ some g ∧ g < w5.heap.size) := fun g hg h => by
          rcases HOwn.out g hg with h1 | h1
          · exact h.1 h1
          · omega
        have HNe := Lib.hid hneK; clear hneK
        have hlen : (la ++ (lb.take k).filter (newTo la)).length ≤ 1000 := by
          have h1 := List.length_filter_le (newTo la) (lb.take k)
          have h2 := List.length_take_le k lb
          have h3 := HL.out
          rw [List.length_append]; omega
        by_cases hlt2 : k < m
        · have hkI2 : (k : Int) < (m : Int) := by omega
          obtain ⟨b, o, x, rfl, hbb, hx, A1, n1, c1, A2, n2, c2, A3, n3, c3, ⟨z1, z2, z3, z4, z5⟩, hcs, ⟨s1, s2, s3⟩, q0, q1, q2, q3, q4, q5, q6, q7⟩ := (hs6.keep fun b hb => hkp.2 b hb.2 hb.1).memory hlt2
          have HX := Lib.hid hx; clear hx
          have hbx : Below wr.heap.size wr (wr.alloc (.cells #[.string x.name, .string x.action, .slice A1 n1 c1, .int .i64 x.result.code, .string x.result.text, .slice A2 n2 c2, .slice A3 n3 c3, .int .i64 x.result.command] 59)) := fr_alloc (fr_refl wr) _
          have hk1 := hkp.call hbx
          have hbel1 := fr_call hbel hbx
          have hlk := set_look (HMap.out _ hk1) z1
          have r0 := (mem_box wr x A1 n1 c1 A2 n2 c2 A3 n3 c3).cell (i := 0) rfl
          cases hd : decide (x.name.data.toList ∈ namesOf la)
          · rw [hd] at hlk
            have HF := Lib.hid (show la ++ (lb.take (k + 1)).filter (newTo la) = (la ++ (lb.take k).filter (newTo la)) ++ [x] by rw [filter_take HX.out, newTo, hd]; simp)
            clear hd
            obtain ⟨L, hL⟩ : ∃ L, L = la ++ (lb.take k).filter (newTo la) := ⟨_, rfl⟩
            rw [← hL] at HF hrow hlen
            clear hL
            have hW9 : Below wr.heap.size wr ((wr.alloc (.cells #[.string x.name, .string x.action, .slice A1 n1 c1, .int .i64 x.result.code, .string x.result.text, .slice A2 n2 c2, .slice A3 n3 c3, .int .i64 x.result.command] 59)).alloc (.cells #[.string x.name, .string x.action, .slice A1 n1 c1, .int .i64 x.result.code, .string x.result.text, .slice A2 n2 c2, .slice A3 n3 c3, .int .i64 x.result.command] 59)) := fr_alloc hbx _
            obtain ⟨hK9, rows, hrows, hown9, hrep9⟩ := hrow.call hW9
            have hx9 : Rep.rep ((wr.alloc (.cells #[.string x.name, .string x.action, .slice A1 n1 c1, .int .i64 x.result.code, .string x.result.text, .slice A2 n2 c2, .slice A3 n3 c3, .int .i64 x.result.command] 59)).alloc (.cells #[.string x.name, .string x.action, .slice A1 n1 c1, .int .i64 x.result.code, .string x.result.text, .slice A2 n2 c2, .slice A3 n3 c3, .int .i64 x.result.command] 59)) (fun b => oo ≠ some b ∧ b < w5.heap.size) x (memCells x A1 n1 c1 A2 n2 c2 A3 n3 c3) := by
              have hkk : ∀ b, (oo ≠ some b ∧ b < w5.heap.size) → ((wr.alloc (.cells #[.string x.name, .string x.action, .slice A1 n1 c1, .int .i64 x.result.code, .string x.result.text, .slice A2 n2 c2, .slice A3 n3 c3, .int .i64 x.result.command] 59)).alloc (.cells #[.string x.name, .string x.action, .slice A1 n1 c1, .int .i64 x.result.code, .string x.result.text, .slice A2 n2 c2, .slice A3 n3 c3, .int .i64 x.result.command] 59)).heap[b]? = wr.heap[b]? := fun b hb => hW9.block b (Nat.lt_of_lt_of_le hb.2 hkp.1)
              exact ⟨A1, n1, c1, A2, n2, c2, A3, n3, c3, rfl, ⟨z1, z2, z3, z4, z5⟩, hcs, s1.keep hkk, s2.keep hkk, s3.keep hkk⟩
            have hnew : ∀ (j' : Nat) u, (memCells x A1 n1 c1 A2 n2 c2 A3 n3 c3)[j']? = some u → ((wr.alloc (.cells #[.string x.name, .string x.action, .slice A1 n1 c1, .int .i64 x.result.code, .string x.result.text, .slice A2 n2 c2, .slice A3 n3 c3, .int .i64 x.result.command] 59)).alloc (.cells #[.string x.name, .string x.action, .slice A1 n1 c1, .int .i64 x.result.code, .string x.result.text, .slice A2 n2 c2, .slice A3 n3 c3, .int .i64 x.result.command] 59)).cell? ((⟨wr.heap.size + 1, 0, none⟩ : Addr).add j') = some u := fun j' u hu => by
              have := new_cells (wr.alloc (.cells #[.string x.name, .string x.action, .slice A1 n1 c1, .int .i64 x.result.code, .string x.result.text, .slice A2 n2 c2, .slice A3 n3 c3, .int .i64 x.result.command] 59)) #[.string x.name, .string x.action, .slice A1 n1 c1, .int .i64 x.result.code, .string x.result.text, .slice A2 n2 c2, .slice A3 n3 c3, .int .i64 x.result.command] 59 j' u hu
              rwa [World.size_alloc] at this
            have HNew := Lib.hid hnew
            have H9 := Lib.hid hown9
            have hz9 := hW9.size
            have HRow := Lib.hid hrow
            clear hrow hown9 hnew
            go_wp2_with (at_builtin; refine wpList_append_lies _ rfl _ _ 51 rfl w.heap.size 59 i0 _ 8 136 Tryz.underlying51 hi0 hz0 hz1 hz2 rfl (by decide) _ L.length _ rfl H9.out ⟨wr.heap.size + 1, 0, none⟩ 1 1 (memCells x A1 n1 c1 A2 n2 c2 A3 n3 c3) rfl rfl HNew.out (mem_cells_one x A1 n1 c1 A2 n2 c2 A3 n3 c3) (by decide) (by unfold maxLen; omega) (by omega) (by have := hbel.size; omega) _ rfl ?_)
            intro g' cap w9 hown10 hg9 hat9 hlt9
            have hrow10 := RowK.append (x := x) (r := memCells x A1 n1 c1 A2 n2 c2 A3 n3 c3) hK9 hrows hrep9 hx9 HNe.out hg9 hown10
            rw [← HF.out] at hrow10
            have hk9 := (hkp.call hW9).grown hg9 HOwn.out
            have hb9 := (fr_call hbel hW9).grown hg9 (by have := hbel.size; omega) fun b hb => by
              rcases HOwn.out b hb with h1 | h1
              · exact hownw b h1
              · omega
            have HOw := Lib.hid (show ∀ g, (Value.slice (some ⟨g', 0, none⟩) (L.length + 1) cap).ownBlock = some g → oo = some g ∨ w5.heap.size ≤ g from fun g hg => by
              obtain rfl : g' = g := by simpa [Value.ownBlock] using hg
              rcases hat9 with h1 | h1
              · exact HOwn.out _ h1
              · have := hkp.1
                exact .inr (by omega))
            have HR10 := Lib.hid hrow10
            have HK10 := Lib.hid hk9
            clear hown10 hg9 hat9 hlt9 hrow10 hk9 hx9 hrep9 HNew H9 hlk r0 q0 q1 q2 q3 q4 q5 q6 q7 hk1 hbel1 hbx hW9 HF
            go_wp2
            go_roundw
            case rel => exact ⟨k + 1, by omega, by go_num, HR10.out, HOw.out, HK10.out, hb9⟩
            case measure => simp [intOf]; omega
          · rw [hd] at hlk
            have hF : la ++ (lb.take (k + 1)).filter (newTo la) = la ++ (lb.take k).filter (newTo la) := by rw [filter_take HX.out, newTo, hd]; simp
            have HR1 := Lib.hid (hrow.call hbx)
            rw [← hF] at HR1
            have HK1 := Lib.hid hk1
            clear hd hF hrow hkp
            go_wp2
            go_roundw
            case rel => exact ⟨k + 1, by omega, by go_num, HR1.out, HOwn.out, HK1.out, hbel1⟩
            case measure => simp [intOf]; omega
        · have hall : la ++ (lb.take k).filter (newTo la) = bothS la lb := by rw [List.take_of_length_le (by rw [HL2.out]; omega)]; rfl
          rw [hall] at hrow hlen
          clear hall
          obtain ⟨A7, c7, hv7⟩ := hrow.form
          have HS := Lib.hid (sort_memories u11 (bothS la lb) w.heap.size (fun b => oo ≠ some b ∧ b < w5.heap.size) wr hrow HNe.out (by omega))
          have hrl := hrow
          rw [hv7] at HS hrow ⊢
          clear hv7 hrl
          obtain ⟨N, hN⟩ : ∃ N, N = (bothS la lb).length := ⟨_, rfl⟩
          have HNe2 := Lib.hid hN
          rw [← hN] at HJ HS hrow hlen ⊢
          clear hN
          by_cases hbig : (500 : Int) < (N : Int)
          · have HV := Lib.hid (show joinedErr la lb = 2 by rw [HJ.out, if_pos hbig])
            go_wp2
            go_ret2
            exact JoinedPost.bad HV.out (by decide) hbel
          · have HV := Lib.hid (show joinedErr la lb = 0 by rw [HJ.out, if_neg hbig])
            go_wp2_with fail
            refine HS.out.mono ?_
            rintro e w9 ⟨rfl, l', hp, hso, hrow9, hg9⟩
            have hl9 : l'.length = N := by rw [HNe2.out, hp.length_eq]
            obtain ⟨A', c', hv', h1, h2, h3⟩ := hrow9.sl
            rw [hl9] at hv' h1 h3
            cases hv'
            have hb9 := hbel.grown hg9 hbel.size fun b hb => by
              have := (hrow.kind b hb).1; exact this
            have HE := Lib.hid (JoinedPost.good (A := A7) (n := N) (c := c7) HV.out h1 h2 ⟨hp, hso⟩ h3 hb9)
            clear hrow9 hg9 h3 hrow
            go_wp2
            go_ret2
            exact HE.out
end Go.Proofs.Sm

namespace Go.Proofs.Sm
open Go.RowKit

def mem0 : MemoryV := ⟨⟨#[97]⟩, ⟨#[48, 49, 50, 51, 52, 53, 54, 55, 56, 57, 97, 98, 99, 100, 101, 102]⟩, [], ⟨0, ⟨#[]⟩, [], [], 0⟩⟩
theorem mem0_err : joinedErr [] [mem0] = 0 := by decide +kernel
theorem mem0_out {out : List MemoryV} (h : JoinedIs [] [mem0] out) : out = [mem0] := by
  have h1 : bothS [] [mem0] = [mem0] := by rw [bothS, List.nil_append, List.filter_cons]; rfl
  have h2 := h.1
  rw [h1] at h2
  exact List.perm_singleton.1 h2
set_option maxHeartbeats 1000000 in
set_option maxRecDepth 100000 in
theorem law6_awake (w : World) (hE : Env w) : Calls Tryz.prog 8 #[] w fun e w' => e = .returned (.bool true) ∧ Below w.heap.size w w' := by
  have hb0 : Below w.heap.size w (w.alloc (.cells #[.string mem0.name, .string mem0.action, .slice none 0 0, .int .i64 0, .string ⟨#[]⟩, .slice none 0 0, .slice none 0 0, .int .i64 0] 59)) := fr_alloc (fr_refl w) _
  have hs0 : Sl (w.alloc (.cells #[.string mem0.name, .string mem0.action, .slice none 0 0, .int .i64 0, .string ⟨#[]⟩, .slice none 0 0, .slice none 0 0, .int .i64 0] 59)) (Lt (w.alloc (.cells #[.string mem0.name, .string mem0.action, .slice none 0 0, .int .i64 0, .string ⟨#[]⟩, .slice none 0 0, .slice none 0 0, .int .i64 0] 59)).heap.size) (some ⟨w.heap.size, 0, none⟩) 1 [mem0] := by
    refine ⟨rfl, by unfold maxLen; decide, fun _ => ⟨_, _, rfl, by show w.heap.size < _; rw [World.size_alloc]; omega, fun i x hx => ?_⟩⟩
    cases i with
    | succ i => simp at hx
    | zero =>
      obtain rfl : mem0 = x := by simpa using hx
      refine ⟨memCells mem0 none 0 0 none 0 0 none 0 0, ⟨none, 0, 0, none, 0, 0, none, 0, 0, rfl, ⟨by decide, by decide, by decide, ⟨by decide, by decide⟩, ⟨by decide, by decide⟩⟩, ⟨by decide, by decide, by decide, by decide, by decide, by decide⟩, Sl.nil, Sl.nil, Sl.nil⟩, fun j v hv => ?_⟩
      have hA : Arr (w.alloc (.cells #[.string mem0.name, .string mem0.action, .slice none 0 0, .int .i64 0, .string ⟨#[]⟩, .slice none 0 0, .slice none 0 0, .int .i64 0] 59)) w.heap.size 59 (memCells mem0 none 0 0 none 0 0 none 0 0) := heap_alloc_new w _
      have := hA.cell hv
      simpa using this
  have HJ := Lib.hid (steps_Joined none (some ⟨w.heap.size, 0, none⟩) 0 0 1 1 [] [mem0] _ (hE.then_ hb0) Sl.nil hs0)
  have HB := Lib.hid hb0
  clear hb0 hs0
  go_enter Tryz.func8, Tryz.ntmps8
  go_wp2_with fail
  refine HJ.out.mono ?_
  rintro e w1 ⟨v, rfl, _, hgood, hb1⟩
  obtain ⟨A, n, c, out, rfl, hn, hc, hj, hs⟩ := hgood mem0_err
  obtain rfl := mem0_out hj
  obtain rfl : 1 = n := hs.1
  rw [mem0_err]
  obtain ⟨b, o, x, rfl, _, hx, A1, n1, c1, A2, n2, c2, A3, n3, c3, _, _, _, q0, _⟩ := hs.memory (k := 0) (by decide)
  obtain rfl : mem0 = x := by simpa using hx
  rw [Nat.zero_mul, Nat.add_zero] at q0
  have hbe := fr_call HB.out hb1
  have hnm : (mem0.name.toList == [97]) = true := by decide +kernel
  clear hgood hj hs hb1 HJ hx
  go_wp2
  go_ret
  exact ⟨rfl, hbe⟩
theorem names_le {w : World} {S : Nat → Prop} {A : Option Addr} {n : Nat} {l : List RuleV} (h : Sl w S A n l) (k : Nat) : (nameAt l k).size ≤ maxLen := by
  unfold nameAt
  cases hx : l[k]? with
  | none => simp; unfold maxLen; decide
  | some x =>
    obtain ⟨_, _, y, _, _, hy, hs, _⟩ := h.ruleName (k := k) (by rw [← h.1]; exact (List.getElem?_eq_some_iff.1 hx).1)
    rw [hx] at hy
    obtain rfl := Option.some.inj hy
    exact hs
theorem edges_sizes {l : List RuleV} (h : ∀ k, (nameAt l k).size ≤ maxLen) : ∀ x ∈ edgesS l, x.name.size ≤ maxLen ∧ x.value.size ≤ maxLen := by
  intro x hx
  rw [edgesS, edgesTo, List.mem_flatMap] at hx
  obtain ⟨i, _, hx⟩ := hx
  rw [edgesAt, List.mem_map] at hx
  obtain ⟨k, _, rfl⟩ := hx
  exact ⟨h i, h k⟩
theorem edges_sl {w : World} {q : Nat} {v : Value} {l : List VarV} (hs : ∀ x ∈ l, x.name.size ≤ maxLen ∧ x.value.size ≤ maxLen) (h : w.ownsRow q 33 2 v l.length (l.flatMap edgeCells)) : ∃ A c, v = .slice A l.length c ∧ Sl w (Lt w.heap.size) A l.length l := by
  obtain ⟨A, c, h1, _, _, h2⟩ := Sl.of_own (α := VarV) (cells := edgeCells) (fun _ => rfl) (fun x hx => ⟨rfl, (hs x hx).1, (hs x hx).2⟩) h
  exact ⟨A, c, h1, h2⟩
set_option maxHeartbeats 1000000 in
set_option maxRecDepth 100000 in
theorem law_rules (A : Option Addr) (n c : Nat) (l : List RuleV) (w : World) (hE : Env w) (hsl : Sl w (Lt w.heap.size) A n l) :
    Calls Tryz.prog 4 #[.slice A n c] w fun e w' => e = .returned (.bool true) ∧ Below w.heap.size w w' := by
  have HS := Lib.hid (edges_sizes (names_le hsl))
  go_enter Tryz.func4, Tryz.ntmps4
  go_wp2_with fail
  refine (steps_Edges A n c l w hE hsl).mono ?_
  rintro e w1 ⟨v1, rfl, hbad1, hgood1, b1⟩
  have hsl1 := sl_call hsl b1 (Nat.le_refl _)
  go_wp2_with fail
  refine (ref6_Edges A n c l w1 (hE.then_ b1) hsl1).mono ?_
  rintro e w2 ⟨v2, rfl, hbad2, hgood2, b2⟩
  have b12 := fr_call b1 b2
  have hsl2 := sl_call hsl1 b2 (Nat.le_refl _)
  obtain ⟨A1, A2, k, c1, c2, m, rfl, rfl, s1, s2⟩ : ∃ (A1 A2 : Option Addr) (k c1 c2 : Nat) (m : List VarV), v1 = .slice A1 k c1 ∧ v2 = .slice A2 k c2 ∧ Sl w2 (Lt w2.heap.size) A1 k m ∧ Sl w2 (Lt w2.heap.size) A2 k m := by
    by_cases h0 : checkRulesS l = 0
    · obtain ⟨q1, _, o1⟩ := hgood1 h0
      obtain ⟨q2, _, o2⟩ := hgood2 h0
      obtain ⟨A1, c1, e1, s1⟩ := edges_sl HS.out o1
      obtain ⟨A2, c2, e2, s2⟩ := edges_sl HS.out o2
      exact ⟨A1, A2, _, c1, c2, _, e1, e2, sl_call s1 b2 (Nat.le_refl _), s2⟩
    · exact ⟨none, none, 0, 0, 0, [], hbad1 h0, hbad2 h0, Sl.nil, Sl.nil⟩
  clear hbad1 hgood1 hbad2 hgood2 hsl1 b1 b2
  generalize hR : checkRulesS l = R
  have HC := Lib.hid (fun (W : World) (hW : Below w2.heap.size w2 W) => steps_CheckRules A n c l W (hE.then_ (fr_call b12 hW)) (sl_call hsl2 hW (Nat.le_refl _)))
  have HC2 := Lib.hid (fun (W : World) (hW : Below w2.heap.size w2 W) => ref6_CheckRules A n c l W (hE.then_ (fr_call b12 hW)) (sl_call hsl2 hW (Nat.le_refl _)))
  rw [hR] at HC HC2
  clear hR
  go_wp2_with fail
  refine (HC.out w2 (fr_refl w2)).mono ?_
  rintro e w3 ⟨rfl, b3⟩
  go_wp2_with fail
  refine (HC2.out w3 b3).mono ?_
  rintro e w4 ⟨rfl, b4⟩
  have b34 := fr_call b3 b4
  have t1 := sl_call s1 b34 (Nat.le_refl _)
  have t2 := sl_call s2 b34 (Nat.le_refl _)
  go_wp2_with fail
  refine (equal_edges A1 A2 k c1 c2 m w4 t1 t2).mono ?_
  rintro e w5 ⟨rfl, b5⟩
  have b5' := fr_call (fr_call b12 b34) b5
  go_wp2_with fail
  refine (law6_awake w5 (hE.then_ b5')).mono ?_
  rintro e w6 ⟨rfl, b6⟩
  go_wp2
  go_ret
  exact ⟨rfl, fr_call b5' b6⟩
end Go.Proofs.Sm

namespace Go.Proofs.Sm
open Go.RowKit

section
variable {α : Type} [Rep α] {w w' : World} {B : Nat} {e : TypeId} {K : Nat → Prop} {v v' : Value} {l l2 : List α}
/-- the last one is struck -/
theorem RowK.pop {x : α} {g c : Nat} (h : RowK w B e K (.slice (some ⟨g, 0, none⟩) (l.length + 1) c) (l ++ [x])) : RowK w B e K (.slice (some ⟨g, 0, none⟩) l.length c) l := by
  obtain ⟨hk, rows, hr, hown, hrep⟩ := h
  have hlens : ∀ r ∈ rows, r.length = Rep.sz α := by
    intro r hr2
    obtain ⟨i, hi⟩ := List.getElem?_of_mem hr2
    have hi2 := (List.getElem?_eq_some_iff.1 hi).1
    exact Rep.len (hrep i _ r (List.getElem?_eq_getElem (by omega)) hi)
  have hrl : rows.length = l.length + 1 := by rw [hr, List.length_append, List.length_singleton]
  have hfl : ∀ (rs : List (List Value)), (∀ r ∈ rs, r.length = Rep.sz α) → rs.flatten.length = rs.length * Rep.sz α := by
    intro rs
    induction rs with
    | nil => intro _; simp
    | cons r rs ih => intro h; rw [List.flatten_cons, List.length_append, ih fun q hq => h q (by simp [hq]), h r (by simp), List.length_cons, Nat.succ_mul]; omega
  have htl : ∀ r ∈ rows.take l.length, r.length = Rep.sz α := fun r hr => hlens r (List.mem_of_mem_take hr)
  have htn : (rows.take l.length).length = l.length := by rw [List.length_take]; omega
  have hft : (rows.take l.length).flatten = rows.flatten.take (l.length * Rep.sz α) := by
    have h1 : rows.flatten = (rows.take l.length).flatten ++ (rows.drop l.length).flatten := by rw [← List.flatten_append, List.take_append_drop]
    rw [h1, List.take_left' (by rw [hfl _ htl, htn])]
  rw [List.length_append, List.length_singleton] at hown
  refine ⟨hk, rows.take l.length, htn, ⟨by rw [hfl _ htl, htn], .inr ?_⟩, fun i y r hy hri => ?_⟩
  · rcases hown.2 with ⟨h0, _⟩ | ⟨g', cap', cur, hv, hg, hb, h1, h2, h3, h4⟩
    · cases h0
    · cases hv
      refine ⟨g, c, cur, rfl, hg, hb, by omega, h2, h3, ?_⟩
      rw [hft, ← h4, List.take_take, Nat.min_eq_left (Nat.mul_le_mul_right _ (by omega))]
  · have hi : i < l.length := (List.getElem?_eq_some_iff.1 hy).1
    rw [List.getElem?_take_of_lt hi] at hri
    exact hrep i y r (by rw [List.getElem?_append_left hi]; exact hy) hri
theorem RowK.appendAll {rows rows2 : List (List Value)} (hk : ∀ k, K k → k < w.heap.size) (hr : rows.length = l.length)
    (hrep : ∀ (i : Nat) (x : α) (r : List Value), l[i]? = some x → rows[i]? = some r → Rep.rep w K x r) (hr2 : rows2.length = l2.length)
    (hrep2 : ∀ (i : Nat) (x : α) (r : List Value), l2[i]? = some x → rows2[i]? = some r → Rep.rep w K x r) (hne : ∀ g, v.ownBlock = some g → ¬ K g)
    (hg : w.grownBy w' v.ownBlock) (hown' : w'.ownsRow B e (Rep.sz α) v' (l.length + l2.length) (rows.flatten ++ rows2.flatten)) : RowK w' B e K v' (l ++ l2) := by
  have h1 : ∀ k, K k → w'.heap[k]? = w.heap[k]? := fun k hh => hg.block k (hk k hh) fun e2 => hne k e2.symm hh
  refine ⟨fun k hh => Nat.lt_of_lt_of_le (hk k hh) hg.size, rows ++ rows2, by simp [hr, hr2], ?_, ?_⟩
  · rw [List.length_append, List.flatten_append]
    exact hown'
  · intro i y s hy hs
    refine Rep.keep h1 ?_
    by_cases hi : i < l.length
    · rw [List.getElem?_append_left hi] at hy
      rw [List.getElem?_append_left (by omega)] at hs
      exact hrep i y s hy hs
    · rw [List.getElem?_append_right (by omega)] at hy
      rw [List.getElem?_append_right (by omega), hr] at hs
      exact hrep2 _ y s hy hs
end
/-- the bools of a block -/
def boolsAt (w : World) (q : Nat) : List Bool := match w.heap[q]? with
  | some (.cells cs _ _) => cs.toList.map fun v => match v with
    | .bool b => b
    | _ => false
  | _ => []
theorem Arr.bools {w : World} {q : Nat} {ty : TypeId} {s : List Bool} (h : Arr w q ty (s.map Value.bool)) : boolsAt w q = s := by
  unfold boolsAt
  rw [h]
  simp only [List.map_map]
  have : (fun v : Value => match v with | .bool b => b | _ => false) ∘ Value.bool = id := rfl
  rw [this, List.map_id]
end Go.Proofs.Sm

namespace Go.Proofs.Sm
open Go.RowKit

def closErr (l : List RuleV) (ws : List ByteArray) : Int := if 500 < (ws.length : Int) then 2 else if idxAll l ws = none then 9 else 0
theorem clos_large {l : List RuleV} {ws : List ByteArray} (h : (500 : Int) < (ws.length : Int)) : closErr l ws = 2 := by rw [closErr, if_pos h]
theorem clos_none {l : List RuleV} {ws : List ByteArray} (h : ¬ (500 : Int) < (ws.length : Int)) (h1 : idxAll l ws = none) : closErr l ws = 9 := by rw [closErr, if_neg h, if_pos h1]
theorem clos_ok {l : List RuleV} {ws : List ByteArray} {ks : List Nat} (h : ¬ (500 : Int) < (ws.length : Int)) (h1 : idxAll l ws = some ks) : closErr l ws = 0 := by rw [closErr, if_neg h, if_neg (by rw [h1]; simp)]
theorem idx_stop {l : List RuleV} {ws : List ByteArray} {k : Nat} {s : ByteArray} (hs : ws[k]? = some s) (h : idxName l s = none) : idxAll l ws = none := by
  obtain ⟨hk, he⟩ := List.getElem?_eq_some_iff.1 hs
  have h1 : ws = ws.take k ++ s :: ws.drop (k + 1) := by
    rw [← he, ← List.drop_eq_getElem_cons hk, List.take_append_drop]
  rw [h1]
  exact idxAll_none h
theorem idx_more {l : List RuleV} {ws : List ByteArray} {k j : Nat} {s : ByteArray} {ks : List Nat} (hs : ws[k]? = some s) (h : idxAll l (ws.take k) = some ks) (hj : idxName l s = some j) : idxAll l (ws.take (k + 1)) = some (ks ++ [j]) := by
  rw [List.take_add_one, hs, Option.toList_some, idxAll_snoc h, hj]; rfl
theorem numOr_some (j : Nat) : numOr6 (some j) = (j : Int) := rfl
theorem numOr_none : numOr6 none = -1 := rfl
def ClosPost (l : List RuleV) (ws : List ByteArray) (w : World) (e : Ending) (w' : World) : Prop :=
  ∃ v, e = .returned (.tuple #[v, .int .i64 (closErr l ws)]) ∧ (closErr l ws ≠ 0 → v = .slice none 0 0) ∧ (closErr l ws = 0 → ∃ out, PlanIs l ws out ∧ RowK w' w.heap.size 3 (fun _ => False) v out) ∧ Below w.heap.size w w'
theorem ClosPost.bad {l : List RuleV} {ws : List ByteArray} {w w' : World} {f : Int} (hf : closErr l ws = f) (h0 : f ≠ 0) (hb : Below w.heap.size w w') : ClosPost l ws w (.returned (.tuple #[.slice none 0 0, .int .i64 f])) w' :=
  ⟨_, by rw [hf], fun _ => rfl, fun h => absurd (hf.symm.trans h) h0, hb⟩
theorem ClosPost.good {l : List RuleV} {ws : List ByteArray} {w w' : World} {v : Value} {out : List Nat} (hf : closErr l ws = 0) (hp : PlanIs l ws out) (hr : RowK w' w.heap.size 3 (fun _ => False) v out) (hb : Below w.heap.size w w') : ClosPost l ws w (.returned (.tuple #[v, .int .i64 0])) w' :=
  ⟨_, by rw [hf], fun h => absurd hf h, fun _ => ⟨out, hp, hr⟩, hb⟩
theorem dfs_bound {l : List RuleV} (hl : l.length ≤ 500) (s : List Bool) : ∀ n, n ≤ 500 → ((List.range n).map fun i => if s[i]? = some true then 0 else 1 + (needAt (needsS l) i).length).sum ≤ n * 501
  | 0, _ => by simp
  | n + 1, h => by
    have h1 := dfs_bound hl s n (by omega)
    have h2 := needAt_len l n
    rw [List.range_succ, List.map_append, List.sum_append]
    simp only [List.map_cons, List.map_nil, List.sum_cons, List.sum_nil, Nat.add_zero]
    rw [Nat.succ_mul]
    refine Nat.add_le_add h1 ?_
    split
    · exact Nat.zero_le _
    · clear h1; omega
theorem dfs_start {l : List RuleV} (hl : l.length ≤ 500) (s : List Bool) (todo : List Nat) (ht : todo.length ≤ 500) : dfsM (needsS l) s todo ≤ 251001 := by
  have h1 := dfs_bound hl s (needsS l).length (by rw [needsS_length]; exact hl)
  rw [needsS_length] at h1
  rw [dfsM, needsS_length]
  have h2 : l.length * 501 ≤ 250500 := Nat.mul_le_mul_right 501 hl
  omega
theorem todo_le (g : Graph) (s : List Bool) (todo : List Nat) : todo.length ≤ dfsM g s todo := by unfold dfsM; omega
theorem dfsM_len (g : Graph) (s : List Bool) {t t' : List Nat} (h : t.length = t'.length) : dfsM g s t = dfsM g s t' := by unfold dfsM; rw [h]
theorem rules_sorted {l : List RuleV} (h : checkRulesS l = 0) : Sorted (asFiles l) ∧ l.length ≤ 500 := by
  unfold checkRulesS at h
  split at h
  · cases h
  rename_i h0
  split at h
  · rename_i h1; exact absurd h h1
  rename_i h1
  exact ⟨sorted_rules (by simpa using h1), by omega⟩
theorem list_pop {α : Type} {l : List α} (h : 0 < l.length) : ∃ t x, l = t ++ [x] := ⟨l.dropLast, l.getLast (by intro e; subst e; simp at h), (List.dropLast_concat_getLast _).symm⟩
theorem nat_one {w : World} {S : Nat → Prop} {x : Nat} {r : List Value} (h : Rep.rep w S x r) : ∀ u ∈ r, u.oneCell' = true := by
  obtain ⟨rfl, _⟩ := h
  intro u hu
  simp only [List.mem_cons, List.not_mem_nil, or_false] at hu
  subst hu; rfl
theorem flat_nat {w : World} {S S' : Nat → Prop} {x : Nat} {vs : List Value} (h : Rep.rep w S x vs) : Rep.rep w S' x vs := h
set_option maxHeartbeats 0 in
set_option maxRecDepth 100000 in
theorem steps_closure (P0 g : Nat) (A B : Option Addr) (n c m d : Nat) (l : List RuleV) (ws : List ByteArray) (w : World) (hpl : PlanAt P0 w g A n c l) (hsl : Sl w (Lt w.heap.size) A n l) (hc0 : checkRulesS l = 0) (hws : Sl w (Lt w.heap.size) B m ws) :
    Calls Tryz.prog 22 #[.pointer (some ⟨g, 0, none⟩), .slice B m d] w (ClosPost l ws w) := by
  obtain ⟨b0, hb0, hbz0, hbz1, hbz2⟩ := info_parts bool_info
  obtain ⟨i0, hi0, hz0, hz1, hz2⟩ := info_parts int_info
  have hm : m ≤ 9223372036854775807 := hws.2.1
  have HL := Lib.hid hsl.1
  have HW := Lib.hid hws.1
  obtain ⟨hsort, hl5⟩ := rules_sorted hc0
  have HC0 := Lib.hid hc0
  have HSo := Lib.hid hsort
  have hn5 : n ≤ 500 := by have := HL.out; omega
  obtain ⟨_, mp, nn, D, dd, hP, _, hd1, hd2, hnd⟩ := hpl
  have hgl := hP.lt
  clear hc0 hsort
  by_cases hbig : (500 : Int) < (m : Int)
  · have HV := Lib.hid (clos_large (l := l) (ws := ws) (by rw [HW.out]; exact hbig))
    go_enter Tryz.func22, Tryz.ntmps22
    go_wp2
    go_ret2
    exact ClosPost.bad HV.out (by decide) (Below.refl _ _)
  have HB := Lib.hid (show ¬ (500 : Int) < (ws.length : Int) by rw [HW.out]; exact hbig)
  obtain ⟨q, hq⟩ : ∃ q, q = w.heap.size := ⟨_, rfl⟩
  have p0 := hP.cell (i := 0) rfl
  go_enter Tryz.func22, Tryz.ntmps22
  go_wp2_with (at_make; refine wpList_make_full _ rfl _ _ 70 rfl w.heap.size 4 b0 (.bool false) 1 Tryz.underlying70 hb0 hbz0 hbz1 .i64 .i64 (n : Nat) (n : Nat) n rfl rfl rfl rfl (by rw [hbz2]; omega) (by unfold maxLen; omega) (Nat.le_refl _) ?_; intro w1 hown hg1)
  rw [show ((.bool false : Value).cells) = #[.bool false] from rfl, made_cells] at hown
  have ha1 := Arr.of_full hown
  have hb1 : Below w.heap.size w w1 := (Below.refl _ w).grown hg1 (Nat.le_refl _) fun k hk => by cases hk
  have hz1' : w.heap.size + 1 ≤ w1.heap.size := ha1.lt
  have ha1' : Arr w1 w.heap.size 4 ((List.replicate n false).map Value.bool) := by rw [List.map_replicate]; exact ha1
  clear hown hg1 ha1 p0
  have hqw : w.heap.size ≤ q := by omega
  rw [← hq] at ha1' hz1'
  go_wp2
  rw [← hq]
  clear hq
  go_loopw [7, 25] (fun v iv wx => ∃ (k : Nat) (ks : List Nat), k ≤ m ∧ iv = .int .i64 k ∧ idxAll l (ws.take k) = some ks ∧ ks.length ≤ k ∧ RowK wx (q + 1) 3 (fun _ => False) v ks ∧ Arr wx q 4 ((List.replicate n false).map Value.bool) ∧ q + 1 ≤ wx.heap.size ∧ Below w.heap.size w wx) (fun _ iv _ => m - (intOf iv).toNat)
  case atStart => exact ⟨0, [], Nat.zero_le _, rfl, rfl, Nat.le_refl _, RowK.nil, ha1', hz1', hb1⟩
  case round =>
    clear ha1' hz1' hb1
    obtain ⟨k, ks, hk, rfl, hix, hkl, hrow, ha, hz, hbel⟩ := hrel
    have HI := Lib.hid hix; clear hix
    by_cases hlt : k < m
    · obtain ⟨b1, o1, p, rfl, _, hp, hps, cp⟩ := (hws.keep (keep_lt hbel)).str hlt
      have HP := Lib.hid hp; clear hp
      have hkI : (k : Int) < (m : Int) := by omega
      have pc := (hbel.cell (p := ⟨g, 0, none⟩) hgl).trans (hP.cell (i := 0) rfl)
      go_wp2_with fail
      refine (steps_find g A n c l p wr pc (sl_call hsl hbel (Nat.le_refl _)) HSo.out hn5).mono ?_
      rintro e w3 ⟨rfl, hb3⟩
      have hbel3 := fr_call hbel hb3
      cases hj : idxName l p with
      | none =>
        have HV := Lib.hid (clos_none (by have := HB.out; omega) (idx_stop HP.out hj))
        rw [numOr_none]
        clear hj
        go_wp2
        go_ret2
        exact ClosPost.bad HV.out (by decide) hbel3
      | some j =>
        have hjn : j < n := by have := (idxName_some hj).1; rwa [HL.out] at this
        have HIx := Lib.hid (idx_more HP.out HI.out hj)
        rw [numOr_some]
        have hj0 : ¬ (j : Int) < 0 := by omega
        clear hj
        have row3 := hrow.call hb3
        have ha3 := ha.call hb3
        have hz3 := hb3.size
        have hW9 : Below w3.heap.size w3 (w3.alloc (.cells #[.int .i64 (j : Int)] 3)) := fr_alloc (fr_refl w3) _
        obtain ⟨_, rows, hrows, hown9, hrep⟩ := row3.call hW9
        have ha9 := ha3.call hW9
        have hb9 := fr_call hbel3 hW9
        have hoth : ∀ b, Value.ownBlock u7 = some b → q + 1 ≤ b := fun b hb => (hrow.kind b hb).1
        have H9 := Lib.hid hown9
        have HRp := Lib.hid hrep
        clear hrow row3 hown9 hrep ha ha3
        go_wp2_with (at_builtin; refine wpList_append_lies _ rfl _ _ 42 rfl (q + 1) 3 i0 _ 1 8 Tryz.underlying42 hi0 hz0 hz1 hz2 rfl (by decide) _ ks.length _ rfl H9.out ⟨w3.heap.size, 0, none⟩ 1 1 [.int .i64 (j : Int)] rfl rfl (new_cells w3 #[_] _) (fun u hu => (by simp only [List.mem_cons, List.mem_nil_iff, or_false] at hu; subst hu; rfl)) (by decide) (by unfold maxLen; omega) (by omega) (by rw [World.size_alloc]; omega) _ rfl ?_)
        intro g' cap w5 hown5 hg5 hat5 hlt5
        have row5 := RowK.append (x := j) (r := [.int .i64 (j : Int)]) (fun k hh => hh.elim) hrows HRp.out ⟨rfl, by unfold maxLen; omega⟩ (fun _ _ hh => hh) hg5 hown5
        have ha5 := ha9.grown hg5 fun e => by have := hoth q e; omega
        have hb5 := hb9.grown hg5 (by have := hbel3.size; rw [World.size_alloc]; omega) fun b hb => by have := hoth b hb; omega
        have hz5 := hg5.size
        rw [World.size_alloc] at hz5
        have HR5 := Lib.hid row5
        have HA5 := Lib.hid ha5
        clear row5 ha5 hown5 hg5 hat5 H9 HRp ha9 hb9 hW9
        go_wp2
        go_roundw
        case rel => exact ⟨k + 1, ks ++ [j], by omega, by go_num, HIx.out, by rw [List.length_append, List.length_singleton]; omega, HR5.out, HA5.out, by omega, hb5⟩
        case measure => simp [intOf]; omega
    · rw [List.take_of_length_le (by rw [HW.out]; omega)] at HI
      have HIlt := Lib.hid (idxAll_lt HI.out)
      have hD0 : Dfs (needsS l) ks (List.replicate n false) ks := by
        have := Dfs.start (g := needsS l) (wanted := ks) (by rw [needsS_length]; exact HIlt.out)
        rwa [needsS_length, HL.out] at this
      have hM0 := dfs_start hl5 (List.replicate n false) ks (by omega)
      have hw := needs_within l
      have hgn : (needsS l).length = n := by rw [needsS_length]; exact HL.out
      have HGn := Lib.hid hgn; clear hgn
      have hmz : ks.length ≤ 500 := by omega
      go_wp2
      go_loopw [7] (fun v wx => ∃ (s : List Bool) (todo : List Nat), RowK wx (q + 1) 3 (fun _ => False) v todo ∧ Arr wx q 4 (s.map Value.bool) ∧ Dfs (needsS l) ks s todo ∧ dfsM (needsS l) s todo ≤ 251001 ∧ q + 1 ≤ wx.heap.size ∧ Below w.heap.size w wx) (fun v wx => dfsM (needsS l) (boolsAt wx q) (List.replicate (lenOf v) 0))
      case atStart => exact ⟨_, ks, hrow, ha, hD0, hM0, hz, hbel⟩
      case round =>
        clear hrow ha hD0 hM0 hz hbel hkl
        obtain ⟨s, todo, hrow, ha, hD, hM, hz, hbel⟩ := hrel
        have HD := Lib.hid hD; clear hD
        have hsl2 : s.length = n := by rw [HD.out.len]; exact HGn.out
        have HSL := Lib.hid hsl2; clear hsl2
        have htl := todo_le (needsS l) s todo
        have HBo := Lib.hid ha.bools
        rcases Nat.eq_zero_or_pos todo.length with h0 | h0
        · obtain rfl := List.eq_nil_of_length_eq_zero h0
          obtain ⟨O, oc, rfl⟩ := hrow.form
          have hC := HD.out.done
          have HC := Lib.hid hC; clear hC
          have hin : Sl wr (Lt wr.heap.size) (some ⟨q, 0, none⟩) n s := by
            have := ha.sl (α := Bool) (l := s) rfl (by simp) (by rw [HSL.out]; unfold maxLen; omega) fun _ x v hx hv => by
              rw [List.getElem?_map, hx] at hv
              cases hv; rfl
            rwa [HSL.out] at this
          have hP2 := hP.call hbel
          have c0 := hP2.cell (i := 0) rfl
          have c2 := hP2.cell (i := 2) rfl
          clear htl h0 hM
          go_wp2_with fail
          refine (steps_order_some g A D ⟨q, 0, none⟩ n c dd n (needsS l) s wr hP2.lt c0 c2 (sl_call hnd hbel (Nat.le_refl _)) hin (needs_within l) (needs_nodup l) (by omega)).mono ?_
          rintro e w5 ⟨v5, rfl, hrow5, hb5⟩
          have hb05 := fr_call hbel hb5
          have hpart := HC.out.part HC0.out
          rw [outOf, if_pos hpart] at hrow5
          rw [hpart]
          have HE := Lib.hid (ClosPost.good (clos_ok (by have := HB.out; omega) HI.out) ⟨ks, s, HI.out, HC.out, rfl⟩ (hrow5.weaken (by have := hbel.size; omega)) hb05)
          clear hpart hrow5 c0 c2 hin hb5
          go_wp2
          go_ret2
          exact HE.out
        · obtain ⟨td, k2, rfl⟩ := list_pop h0
          obtain ⟨O, oc, hv⟩ := hrow.form
          rw [List.length_append, List.length_singleton] at hv htl
          obtain ⟨b1, rfl⟩ : ∃ b1, O = some ⟨b1, 0, none⟩ := by
            obtain ⟨_, rows, _, hown, _⟩ := hrow
            rcases hown.2 with ⟨_, e1⟩ | ⟨b1, cap', cur, e1, _⟩
            · rw [List.length_append, List.length_singleton] at e1; omega
            · rw [hv, List.length_append, List.length_singleton] at e1; cases e1; exact ⟨b1, rfl⟩
          subst hv
          have hpop := hrow.pop
          obtain ⟨A7, c7, e7, h7a, hoc, hs7⟩ := hrow.sl
          rw [List.length_append, List.length_singleton] at e7 hs7 h7a
          cases e7
          obtain ⟨_, _, x7, e8, _, hx7, hxm, c8⟩ := hs7.nat (k := td.length) (by omega)
          cases e8
          rw [List.getElem?_append_right (Nat.le_refl _), Nat.sub_self] at hx7
          obtain rfl : k2 = x7 := by simpa using hx7
          rw [Nat.zero_add] at c8
          have hkn : k2 < n := by have := HD.out.lt k2 (by simp); rw [HGn.out] at this; exact this
          have hkI : (k2 : Int) < (n : Int) := by omega
          obtain ⟨sv, hsv⟩ := at_lt (l := s) (k := k2) (by rw [HSL.out]; exact hkn)
          have cs := ha.cell (i := k2) (v := .bool sv) (by rw [List.getElem?_map, hsv]; rfl)
          have htd : td.length ≤ 251000 := by omega
          have hu1 : (0 : Int) < (td.length : Int) + 1 := by omega
          clear hx7 hrow hs7 h0
          have hmx : oc ≤ 9223372036854775807 := hoc
          have e1 : ((td.length : Int) + 1 - 1) = (td.length : Int) := by omega
          have hgq : g < q := by omega
          cases sv
          · have hset := ha.set k2 (.bool true)
            rw [show (s.map Value.bool).set k2 (.bool true) = (s.set k2 true).map Value.bool by rw [List.map_set]] at hset
            have hf := ha.frozen k2
            have hDt := HD.out.take hw
            have hMt := dfsM_take (g := needsS l) (s := s) (todo := td) (k := k2) HD.out.len (by rw [HGn.out]; exact hkn) hsv
            have HDt := Lib.hid hDt
            have HMt := Lib.hid hMt
            have HM := Lib.hid hM
            obtain ⟨W2, hW2⟩ : ∃ W2, W2 = wr.setCell ⟨q, k2, none⟩ (.bool true) := ⟨_, rfl⟩
            rw [← hW2] at hset
            have hrow2 : RowK W2 (q + 1) 3 (fun _ => False) (.slice (some ⟨b1, 0, none⟩) td.length oc) td := by
              rw [hW2]
              exact hpop.keep (by simp) (fun _ hh => hh.elim) fun b hb => heap_setCell_other wr ⟨q, k2, none⟩ b _ (by have := (hpop.kind b hb).1; show b ≠ q; omega)
            have hz2' : q + 1 ≤ W2.heap.size := by rw [hW2, size_setCell']; exact hz
            have hb2 : Below w.heap.size w W2 := by rw [hW2]; exact hbel.setCell (p := ⟨q, k2, none⟩) hqw _
            have hP2 := hP.call hb2
            have c2 := hP2.cell (i := 2) rfl
            obtain ⟨bD, oD, r, A8, n8, c8', rfl, hbD, hr8, hn8, hc8, hrow8, cD⟩ := (hnd.keep (keep_lt hb2)).row hkn
            have HR8 := Lib.hid (need_row hr8)
            have hl8 : (needAt (needsS l) k2).length = n8 := by rw [HR8.out]; exact hrow8.1
            have h85 : n8 ≤ 500 := by have := needAt_len l k2; omega
            have HL8 := Lib.hid hl8
            obtain ⟨rows2, y1, y2, y3, y4, y5⟩ := sl_cells hrow8 (by decide)
            have Y2 := Lib.hid y2
            have Y1 := Lib.hid y1
            have Y3 := Lib.hid y3
            have Y4 := Lib.hid y4
            have Y5 := Lib.hid (show ∀ u ∈ rows2.flatten, u.oneCell' = true from fun u hu => by
              obtain ⟨rr, hrr, hur⟩ := List.mem_flatten.1 hu
              obtain ⟨xx, _, hxx⟩ := y5 rr hrr
              exact nat_one hxx u hur)
            obtain ⟨_, rows, hrows, hown9, hrep⟩ := id hrow2
            have H9 := Lib.hid hown9
            have HRp := Lib.hid hrep
            have hoth : ∀ b, Value.ownBlock (.slice (some ⟨b1, 0, none⟩) td.length oc) = some b → q + 1 ≤ b := fun b hb => (hrow2.kind b hb).1
            have HSet := Lib.hid hset
            clear hr8 hl8 hset hDt hMt hM y1 y2 y3 y4 y5 hown9 hrep hrow2 hP2 hsv htl ha
            subst hW2
            go_wp2_with (at_builtin; refine wpList_append_src rfl _ _ 42 rfl (q + 1) 3 i0 _ 1 8 Tryz.underlying42 hi0 hz0 hz1 hz2 rfl (by decide) _ td.length _ rfl H9.out A8 n8 c8' rows2.flatten rfl Y3.out Y4.out Y5.out ?c3 ?c4 ?c5 ?_)
            case c3 => unfold maxLen; omega
            case c4 => omega
            intro v9 w9 hown9 hg9
            have row9 := RowK.appendAll (l2 := needAt (needsS l) k2) (K := fun _ => False) (rows2 := rows2) (fun _ hh => hh.elim) hrows HRp.out (by rw [Y1.out, HL8.out]) (fun i x r hx hr => flat_nat (Y2.out i x r (by rw [← HR8.out]; exact hx) hr)) (fun _ _ hh => hh) hg9 (by rw [HL8.out]; exact hown9)
            have ha9 := HSet.out.grown hg9 fun e => by have := hoth q e; omega
            have hb9 := hb2.grown hg9 (by omega) fun b hb => by have := hoth b hb; omega
            have hz9 := hg9.size
            have HR9 := Lib.hid row9
            have HA9 := Lib.hid ha9
            obtain ⟨A9, c9, hv9⟩ := row9.form
            have HV9 := Lib.hid hv9
            clear row9 ha9 hown9 hg9 hv9 H9 HRp Y1 Y2 Y3 Y4 Y5 c2 cD hrow8
            go_wp2
            go_roundw
            case rel => exact ⟨s.set k2 true, td ++ needAt (needsS l) k2, HR9.out, HA9.out, HDt.out, Nat.le_trans (Nat.le_of_lt HMt.out) HM.out, by omega, hb9⟩
            case measure =>
              rw [HBo.out, HA9.out.bools, HV9.out]
              simp only [lenOf]
              rw [dfsM_len (needsS l) (s.set k2 true) (t' := td ++ needAt (needsS l) k2) (by simp), dfsM_len (needsS l) s (t := List.replicate (td.length + 1) 0) (t' := td ++ [k2]) (by simp)]
              exact HMt.out
          · have HDs := Lib.hid (HD.out.skip hsv)
            have HMs := Lib.hid (show dfsM (needsS l) s td ≤ 251001 from Nat.le_trans (Nat.le_of_lt (dfsM_skip (needsS l) s td k2)) hM)
            have HA := Lib.hid ha
            have HPp := Lib.hid hpop
            clear hsv hM ha hpop htl
            go_wp2
            go_roundw
            case rel => exact ⟨s, td, HPp.out, HA.out, HDs.out, HMs.out, hz, hbel⟩
            case measure =>
              rw [HBo.out]
              simp only [lenOf]
              rw [dfsM_len (needsS l) s (t := List.replicate td.length 0) (t' := td) (by simp), dfsM_len (needsS l) s (t := List.replicate (td.length + 1) 0) (t' := td ++ [k2]) (by simp)]
              exact dfsM_skip (needsS l) s td k2
end Go.Proofs.Sm
