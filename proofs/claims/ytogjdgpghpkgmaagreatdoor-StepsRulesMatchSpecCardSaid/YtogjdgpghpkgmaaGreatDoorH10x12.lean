/- CheckRules and Edges are as specified, with all errors: the given statement, for all arguments; no condition. -/
import Derived.Shelf.SlGeneric
import Derived.Shelf.SlSortCmp.WholeK
import Derived.Ground.SlsfProg
import Derived.Test.YtogjdgpghpkgmaaGreatDoorProg
import Derived.Test.YtogjdgpghpkgmaaGreatDoorH10x11
import Derived.Shelf.SlSortCmp.NoneTotal
import Derived.Test.YtogjdgpghpkgmaaGreatDoorH10x8
import Derived.Test.YtogjdgpghpkgmaaGreatDoorH10x10
import Derived.Test.YtogjdgpghpkgmaaGreatDoorH10x7
import Derived.Test.YtogjdgpghpkgmaaGreatDoorCardZRC10
namespace Go.Proofs
open Go.Shelf
def Tryz.sortf_apiMemory_ren : Go.Shelf.Ren := ⟨fun | 6 => 51 | 15 => 84 | 14 => 83 | 28 => 116 | 29 => 117 | 20 => 108 | 21 => 109 | 22 => 110 | 23 => 111 | 24 => 112 | 25 => 113 | 26 => 114 | 27 => 115 | 46 => 166 | 47 => 167 | 48 => 168 | 49 => 169 | 50 => 170 | 57 => 195 | n => n, fun | 22 => 51 | 24 => 59 | 25 => 99 | 3 => 3 | 39 => 121 | 0 => 0 | 53 => 143 | 55 => 145 | 4 => 4 | 46 => 137 | 45 => 136 | 50 => 79 | 5 => 5 | 9 => 9 | 66 => 179 | 70 => 183 | 76 => 197 | 77 => 198 | n => n, fun | n => n⟩
theorem Tryz.sortf_apiMemory : Go.Proofs.SlLaysF0.n6 Tryz.prog Tryz.sortf_apiMemory_ren := {
  mixed := by kernel_rfl
  f6 := ⟨Tryz.f51.name, by decide, Tryz.func51.trans (congrArg some (by kernel_rfl))⟩
  f14 := ⟨Tryz.f83.name, by decide, Tryz.func83.trans (congrArg some (by kernel_rfl))⟩
  f15 := Tryz.func84.trans (congrArg some (by kernel_rfl))
  f20 := ⟨Tryz.f108.name, by decide, Tryz.func108.trans (congrArg some (by kernel_rfl))⟩
  f21 := ⟨Tryz.f109.name, by decide, Tryz.func109.trans (congrArg some (by kernel_rfl))⟩
  f22 := ⟨Tryz.f110.name, by decide, Tryz.func110.trans (congrArg some (by kernel_rfl))⟩
  f23 := ⟨Tryz.f111.name, by decide, Tryz.func111.trans (congrArg some (by kernel_rfl))⟩
  f24 := ⟨Tryz.f112.name, by decide, Tryz.func112.trans (congrArg some (by kernel_rfl))⟩
  f25 := ⟨Tryz.f113.name, by decide, Tryz.func113.trans (congrArg some (by kernel_rfl))⟩
  f26 := ⟨Tryz.f114.name, by decide, Tryz.func114.trans (congrArg some (by kernel_rfl))⟩
  f27 := ⟨Tryz.f115.name, by decide, Tryz.func115.trans (congrArg some (by kernel_rfl))⟩
  f28 := Tryz.func116.trans (congrArg some (by kernel_rfl))
  f29 := Tryz.func117.trans (congrArg some (by kernel_rfl))
  f46 := ⟨Tryz.f166.name, by decide, Tryz.func166.trans (congrArg some (by kernel_rfl))⟩
  f47 := Tryz.func167.trans (congrArg some (by kernel_rfl))
  f48 := Tryz.func168.trans (congrArg some (by kernel_rfl))
  f49 := ⟨Tryz.f169.name, by decide, Tryz.func169.trans (congrArg some (by kernel_rfl))⟩
  f50 := ⟨Tryz.f170.name, by decide, Tryz.func170.trans (congrArg some (by kernel_rfl))⟩
  f57 := ⟨Tryz.f195.name, by decide, Tryz.func195.trans (congrArg some (by kernel_rfl))⟩
  t0 := Tryz.underlying0
  a0 := Tryz.isAgg0
  z0 := Tryz.sizeOf0
  v0 := Tryz.zeroValue0
  t3 := Tryz.underlying3
  a3 := Tryz.isAgg3
  z3 := Tryz.sizeOf3
  v3 := Tryz.zeroValue3
  t4 := Tryz.underlying4
  a4 := Tryz.isAgg4
  z4 := Tryz.sizeOf4
  v4 := Tryz.zeroValue4
  t5 := Tryz.underlying5
  a5 := Tryz.isAgg5
  z5 := Tryz.sizeOf5
  v5 := Tryz.zeroValue5
  t9 := Tryz.underlying9
  a9 := Tryz.isAgg9
  z9 := Tryz.sizeOf9
  v9 := Tryz.zeroValue9
  t22 := Tryz.underlying51
  a22 := Tryz.isAgg51
  z22 := Tryz.sizeOf51
  v22 := Tryz.zeroValue51
  t25 := Tryz.underlying99
  a25 := Tryz.isAgg99
  z25 := Tryz.sizeOf99
  v25 := Tryz.zeroValue99
  t39 := Tryz.underlying121
  a39 := Tryz.isAgg121
  z39 := Tryz.sizeOf121
  v39 := Tryz.zeroValue121
  t45 := Tryz.underlying136
  a45 := Tryz.isAgg136
  z45 := Tryz.sizeOf136
  v45 := Tryz.zeroValue136
  t46 := Tryz.underlying137
  a46 := Tryz.isAgg137
  z46 := Tryz.sizeOf137
  v46 := Tryz.zeroValue137
  t50 := Tryz.underlying79
  a50 := Tryz.isAgg79
  z50 := Tryz.sizeOf79
  v50 := Tryz.zeroValue79
  t53 := Tryz.underlying143
  a53 := Tryz.isAgg143
  z53 := Tryz.sizeOf143
  v53 := Tryz.zeroValue143
  t55 := Tryz.underlying145
  a55 := Tryz.isAgg145
  z55 := Tryz.sizeOf145
  v55 := Tryz.zeroValue145
  t66 := Tryz.underlying179
  a66 := Tryz.isAgg179
  z66 := Tryz.sizeOf179
  v66 := Tryz.zeroValue179
  t70 := Tryz.underlying183
  a70 := Tryz.isAgg183
  z70 := Tryz.sizeOf183
  v70 := Tryz.zeroValue183
  t76 := Tryz.underlying197
  a76 := Tryz.isAgg197
  z76 := Tryz.sizeOf197
  v76 := Tryz.zeroValue197
  t77 := Tryz.underlying198
  a77 := Tryz.isAgg198
  z77 := Tryz.sizeOf198
  v77 := Tryz.zeroValue198 }
end Go.Proofs

namespace Go.Proofs.Sm
open Go.RowKit Go.Sort Go.Shelf Go.Lib

/-- the cells of what is remembered of one rule -/
structure MemRow where
  name : ByteArray
  action : ByteArray
  text : ByteArray
  s1 : Value
  s2 : Value
  s3 : Value
  code : Int
  command : Int
  one : s1.oneCell' = true ∧ s2.oneCell' = true ∧ s3.oneCell' = true
instance : Inhabited MemRow := ⟨⟨⟨#[]⟩, ⟨#[]⟩, ⟨#[]⟩, .bool false, .bool false, .bool false, 0, 0, rfl, rfl, rfl⟩⟩
def encMem (x : MemRow) : List Value := [.string x.name, .string x.action, x.s1, .int .i64 x.code, .string x.text, x.s2, x.s3, .int .i64 x.command]
instance : Inhabited MemoryV := ⟨⟨⟨#[]⟩, ⟨#[]⟩, [], ⟨0, ⟨#[]⟩, [], [], 0⟩⟩⟩
/-- what is remembered, and how it lies -/
abbrev MemP := MemoryV × MemRow
def encP (p : MemP) : List Value := encMem p.2
def cmpP (p q : MemP) : Int := Lib.compareBytes p.2.name.data.toList q.2.name.data.toList
theorem ltP (p q : MemP) : ltOf cmpP p q = ltS p.2.name q.2.name := by
  unfold ltOf cmpP ltS
  rw [Lib.toList_data, Lib.toList_data, Bool.eq_iff_iff, decide_eq_true_eq, cmp_lt]
theorem swoP : SWO (ltOf cmpP) where
  irrefl x := by rw [ltP]; exact bl_irrefl _
  trans x y z h1 h2 := by rw [ltP] at *; exact bl_trans h1 h2
  ntrans x y z h1 h2 := by
    rw [ltP] at *
    cases h : ltS x.2.name z.2.name with
    | false => rfl
    | true =>
      exfalso
      by_cases e : x.2.name.toList = y.2.name.toList
      · unfold ltS at h h2
        rw [e] at h
        rw [h] at h2; cases h2
      · have h3 : ltS y.2.name x.2.name = true := bl_total h1 e
        have h4 : ltS y.2.name z.2.name = true := bl_trans h3 h
        rw [h4] at h2; cases h2
set_option maxRecDepth 100000 in
theorem steps_Joined1 (x y : MemP) (w : World) :
    Calls Tryz.prog 52 #[.agg (encP x).toArray, .agg (encP y).toArray] w fun e w' => e = .returned (.int .i64 (cmpP x y)) ∧ ∃ q os', w' = grow (w.drewN q) os' := by
  unfold encP encMem cmpP
  generalize hx : x.2 = a
  generalize hy : y.2 = b
  have a1 := a.one.1
  have a2 := a.one.2.1
  have a3 := a.one.2.2
  have b1 := b.one.1
  have b2 := b.one.2.1
  have b3 := b.one.2.2
  have HC := Lib.hid (fun W => Tryz.strings_Compare a.name b.name W)
  generalize Lib.compareBytes a.name.data.toList b.name.data.toList = r at HC ⊢
  clear hx hy
  go_enter Tryz.func52, Tryz.ntmps52
  go_wp2_with (go_at_call 53; refine (HC.out _).mono ?_; rintro e w1 ⟨rfl, rfl⟩)
  go_ret
  exact ⟨rfl, 0, _, by rw [alloc_eq_grow, alloc_eq_grow, grow_grow]; rfl⟩
theorem agg_memory : ∀ w, (isAgg 59).run Tryz.prog w = .ok true w := fun w => Tryz.isAgg59 w
theorem size_memory : ∀ w, (Go.sizeOf 59).run Tryz.prog w = .ok 8 w := fun w => Tryz.sizeOf59 w
end Go.Proofs.Sm

namespace Go.Proofs.Sm
open Go.RowKit Go.Sort Go.Shelf Go.Lib

theorem encP_len (p : MemP) : (encP p).length = 8 := rfl
theorem encP_one (p : MemP) : ∀ v ∈ encP p, v.oneCell' = true := by
  intro v hv
  unfold encP encMem at hv
  simp only [List.mem_cons, List.not_mem_nil, or_false] at hv
  obtain ⟨h1, h2, h3⟩ := p.2.one
  rcases hv with rfl | rfl | rfl | rfl | rfl | rfl | rfl | rfl
  all_goals first | rfl | assumption
/-- a row of memories as pairs of what they are and how they lie -/
theorem row_pairs {w : World} {B : Nat} {e : TypeId} {K : Nat → Prop} {v : Value} {l : List MemoryV} (h : RowK w B e K v l) :
    ∃ ps : List MemP, ps.map Prod.fst = l ∧ (∀ p ∈ ps, Rep.rep w K p.1 (encP p) ∧ p.2.name = p.1.name) ∧ w.ownsRow B e 8 v l.length (ps.flatMap encP) := by
  obtain ⟨_, rows, hr, hown, hrep⟩ := h
  have key : ∀ (l : List MemoryV) (rows : List (List Value)), rows.length = l.length → (∀ (i : Nat) (x : MemoryV) (r : List Value), l[i]? = some x → rows[i]? = some r → Rep.rep w K x r) →
      ∃ ps : List MemP, ps.map Prod.fst = l ∧ (∀ p ∈ ps, Rep.rep w K p.1 (encP p) ∧ p.2.name = p.1.name) ∧ rows.flatten = ps.flatMap encP := by
    intro l
    induction l with
    | nil =>
      intro rows h0 _
      obtain rfl := List.eq_nil_of_length_eq_zero h0
      exact ⟨[], rfl, fun p hp => by simp at hp, rfl⟩
    | cons x l ih =>
      intro rows h0 h1
      cases rows with
      | nil => simp at h0
      | cons r rows =>
        obtain ⟨ps, h2, h3, h4⟩ := ih rows (by simpa using h0) fun i x r hx hr => h1 (i + 1) x r (by simpa using hx) (by simpa using hr)
        have hx := h1 0 x r rfl rfl
        obtain ⟨A, n, c, B, m, d, C, p, q, e0, _⟩ := id hx
        have hx2 := hx
        rw [e0] at hx2
        refine ⟨(x, ⟨x.name, x.action, x.result.text, .slice A n c, .slice B m d, .slice C p q, x.result.code, x.result.command, rfl, rfl, rfl⟩) :: ps, by rw [List.map_cons, h2], fun y hy => ?_, ?_⟩
        · rcases List.mem_cons.1 hy with rfl | hy
          · exact ⟨hx2, rfl⟩
          · exact h3 y hy
        · rw [List.flatten_cons, h4, e0, List.flatMap_cons]; rfl
  obtain ⟨ps, h1, h2, h3⟩ := key l rows hr hrep
  exact ⟨ps, h1, h2, by rw [← h3]; exact hown⟩
theorem row_of_pairs {w w' : World} {B g : Nat} {e : TypeId} {K : Nat → Prop} {v : Value} {ps ps' : List MemP} (hK : ∀ k, K k → k < w.heap.size) (hg : ¬ K g) (hrep : ∀ p ∈ ps, Rep.rep w K p.1 (encP p)) (hp : ps'.Perm ps) (hgr : w.grownBy w' (some g)) (hown : w'.ownsRow B e 8 v ps'.length (ps'.flatMap encP)) : RowK w' B e K v (ps'.map Prod.fst) := by
  refine ⟨fun k hk => Nat.lt_of_lt_of_le (hK k hk) hgr.size, ps'.map encP, by simp, ?_, fun i x r hx hr => ?_⟩
  · rw [List.length_map, ← List.flatMap_def]
    exact hown
  · rw [List.getElem?_map, Option.map_eq_some_iff] at hx hr
    obtain ⟨p, hp1, rfl⟩ := hx
    obtain ⟨q, hq1, rfl⟩ := hr
    rw [hp1] at hq1
    obtain rfl := Option.some.inj hq1
    exact Rep.keep (fun k hk => hgr.block k (hK k hk) fun e => hg (by cases e; exact hk)) (hrep p (hp.mem_iff.1 (List.mem_of_getElem? hp1)))
theorem sort_memories (v : Value) (l : List MemoryV) (B : Nat) (K : Nat → Prop) (w : World) (h : RowK w B 59 K v l) (hne : ∀ g, v.ownBlock = some g → ¬ K g) (hn : l.length ≤ 1000000) :
    Calls Tryz.prog 51 #[v, .func (.func 52) #[] #[]] w fun e w' => e = .returned (.tuple #[]) ∧
      ∃ l', l'.Perm l ∧ (∀ (i j : Nat) (x y : MemoryV), i < j → l'[i]? = some x → l'[j]? = some y → ltS y.name x.name = false) ∧ RowK w' B 59 K v l' ∧ w.grownBy w' v.ownBlock := by
  rcases Nat.eq_zero_or_pos l.length with h0 | h0
  · obtain rfl := List.eq_nil_of_length_eq_zero h0
    obtain ⟨A, c, rfl⟩ := h.form
    have hcon := AnyF.slices_SortFunc_none Tryz.sortf_apiMemory A c (.func (.func 52) #[] #[]) w
    change Calls Tryz.prog 51 _ _ _ at hcon
    refine hcon.mono ?_
    rintro e w' ⟨rfl, rfl⟩
    exact ⟨rfl, [], List.Perm.refl _, fun i j x y _ h => by simp at h, h, World.grownBy.refl _ _⟩
  · obtain ⟨ps, hps, hrep, hown⟩ := row_pairs h
    have hl : ps.length = l.length := by rw [← hps, List.length_map]
    obtain ⟨A, c, rfl⟩ := h.form
    obtain ⟨g, rfl, hgl⟩ : ∃ g, A = some ⟨g, 0, none⟩ ∧ g < w.heap.size := by
      rcases hown.2 with ⟨e0, h1⟩ | ⟨g, cap, cur, e0, h1, h2, _⟩
      · omega
      · cases e0; exact ⟨g, rfl, (Array.getElem?_eq_some_iff.1 h2).1⟩
    have hs : ps.toArray.size = l.length := by rw [List.size_toArray, hl]
    have hown2 : w.ownsRow B 59 8 (.slice (some ⟨g, 0, none⟩) ps.toArray.size c) ps.toArray.size (ps.toArray.toList.flatMap encP) := by rw [hs]; exact hown
    have eg : ∀ args w, (callFunc 52 args).run Tryz.prog w = .ok (.enter 52 args) w := enters_of Tryz.func52 (by kernel_rfl) rfl
    have hcon := AnyQ.slices_SortFunc Tryz.sortf_apiMemory 8 agg_memory size_memory encP encP_len encP_one cmpP swoP 52 #[] g 0 c ps.toArray w eg (fun _ _ _ _ x y => steps_Joined1 x y _) (holdsK_own encP_len hown2) hgl (by rw [hs]; omega)
    change Calls Tryz.prog 51 _ _ _ at hcon
    rw [hs] at hcon
    refine hcon.mono ?_
    rintro e w' ⟨rfl, d', n, os, ⟨hd1, _, hd2⟩, hso, rfl⟩
    rw [hs] at hd1
    have hd3 : d'.toList.Perm ps := by
      have e1 : (d'.extract 0 l.length).toList = d'.toList := by rw [← hd1, Array.extract_size]
      have e2 : (ps.toArray.extract 0 l.length).toList = ps := by rw [← hs, Array.extract_size]
      rwa [e1, e2] at hd2
    obtain ⟨hown3, hgr⟩ := sorted_row encP_len (n := n) (os := os) (d' := d') (by rw [hs, hd1]) hown2
    have hdl : d'.toList.length = l.length := by rw [Array.length_toList, hd1]
    rw [hs, ← hdl] at hown3
    have hrow := row_of_pairs h.1 (hne g rfl) (fun p hp => (hrep p hp).1) hd3 hgr hown3
    refine ⟨rfl, d'.toList.map Prod.fst, ?_, fun i j x y hij hx hy => ?_, ?_, hgr⟩
    · rw [← hps]; exact hd3.map _
    · rw [List.getElem?_map, Option.map_eq_some_iff] at hx hy
      obtain ⟨p, hp1, rfl⟩ := hx
      obtain ⟨q, hq1, rfl⟩ := hy
      have hj : j < d'.size := by
        have := (List.getElem?_eq_some_iff.1 hq1).1
        simpa using this
      have h1 := hso i j (Nat.zero_le _) hij (by omega)
      rw [ltP, getElem!_pos d' i (by omega), getElem!_pos d' j hj] at h1
      rw [Array.getElem?_toList, Array.getElem?_eq_getElem (by omega)] at hp1
      rw [Array.getElem?_toList, Array.getElem?_eq_getElem hj] at hq1
      obtain rfl := Option.some.inj hp1
      obtain rfl := Option.some.inj hq1
      rwa [(hrep _ (hd3.mem_iff.1 (by simp))).2, (hrep _ (hd3.mem_iff.1 (by simp))).2] at h1
    · rw [hdl] at hrow; exact hrow
end Go.Proofs.Sm

namespace Go.Proofs.Sm
open Go.RowKit

/-- all blocks of W but one are as they were -/
def KeepO (W : World) (o : Option Nat) (w : World) : Prop := W.heap.size ≤ w.heap.size ∧ ∀ b, b < W.heap.size → o ≠ some b → w.heap[b]? = W.heap[b]?
theorem KeepO.refl (W : World) (o : Option Nat) : KeepO W o W := ⟨Nat.le_refl _, fun _ _ _ => rfl⟩
theorem KeepO.call {W w w' : World} {o : Option Nat} (h : KeepO W o w) (hb : Below w.heap.size w w') : KeepO W o w' :=
  ⟨Nat.le_trans h.1 hb.size, fun b h1 h2 => (hb.block b (Nat.lt_of_lt_of_le h1 h.1)).trans (h.2 b h1 h2)⟩
theorem KeepO.grown {W w w' : World} {o row : Option Nat} (h : KeepO W o w) (hg : w.grownBy w' row) (hr : ∀ g, row = some g → o = some g ∨ W.heap.size ≤ g) : KeepO W o w' :=
  ⟨Nat.le_trans h.1 hg.size, fun b h1 h2 => (hg.block b (Nat.lt_of_lt_of_le h1 h.1) fun e => by
    rcases hr b e.symm with h3 | h3
    · exact h2 h3
    · omega).trans (h.2 b h1 h2)⟩
def JoinedPost (la lb : List MemoryV) (w : World) (e : Ending) (w' : World) : Prop :=
  ∃ v, e = .returned (.tuple #[v, .int .i64 (joinedErr la lb)]) ∧ (joinedErr la lb ≠ 0 → v = .slice none 0 0) ∧
    (joinedErr la lb = 0 → ∃ A n c out, v = .slice A n c ∧ n ≤ c ∧ c ≤ maxLen ∧ JoinedIs la lb out ∧ Sl w' (Lt w'.heap.size) A n out) ∧ Below w.heap.size w w'
theorem JoinedPost.bad {la lb : List MemoryV} {w w' : World} {f : Int} (hf : joinedErr la lb = f) (h0 : f ≠ 0) (hb : Below w.heap.size w w') : JoinedPost la lb w (.returned (.tuple #[.slice none 0 0, .int .i64 f])) w' :=
  ⟨_, by rw [hf], fun _ => rfl, fun h => absurd (hf.symm.trans h) h0, hb⟩
theorem JoinedPost.good {la lb out : List MemoryV} {w w' : World} {A : Option Addr} {n c : Nat} (hf : joinedErr la lb = 0) (hn : n ≤ c) (hc : c ≤ maxLen) (hj : JoinedIs la lb out) (hs : Sl w' (Lt w'.heap.size) A n out) (hb : Below w.heap.size w w') : JoinedPost la lb w (.returned (.tuple #[.slice A n c, .int .i64 0])) w' :=
  ⟨_, by rw [hf], fun h => absurd hf h, fun _ => ⟨A, n, c, out, rfl, hn, hc, hj, hs⟩, hb⟩
theorem joined_a {la lb : List MemoryV} (h : checkMemoryS la ≠ 0) : joinedErr la lb = checkMemoryS la := by rw [joinedErr, if_pos h]
theorem joined_b {la lb : List MemoryV} (h : checkMemoryS la = 0) (h1 : checkMemoryS lb ≠ 0) : joinedErr la lb = checkMemoryS lb := by rw [joinedErr, if_neg (by rw [h]; decide), if_pos h1]
theorem joined_rest {la lb : List MemoryV} (h : checkMemoryS la = 0) (h1 : checkMemoryS lb = 0) : joinedErr la lb = if 500 < ((bothS la lb).length : Int) then 2 else 0 := by rw [joinedErr, if_neg (by rw [h]; decide), if_neg (by rw [h1]; decide)]
theorem mem_cells_one (x : MemoryV) (A1 : Option Addr) (n1 c1 : Nat) (A2 : Option Addr) (n2 c2 : Nat) (A3 : Option Addr) (n3 c3 : Nat) : ∀ u ∈ memCells x A1 n1 c1 A2 n2 c2 A3 n3 c3, u.oneCell' = true := by
  intro u hu
  unfold memCells at hu
  simp only [List.mem_cons, List.not_mem_nil, or_false] at hu
  rcases hu with rfl | rfl | rfl | rfl | rfl | rfl | rfl | rfl <;> rfl
set_option maxHeartbeats 0 in
set_option maxRecDepth 100000 in
theorem steps_Joined (A B : Option Addr) (n c m d : Nat) (la lb : List MemoryV) (w : World) (hE : Env w) (hsl : Sl w (Lt w.heap.size) A n la) (hsl2 : Sl w (Lt w.heap.size) B m lb) :
    Calls Tryz.prog 23 #[.slice A n c, .slice B m d] w (JoinedPost la lb w) := by
  have hm : n ≤ 9223372036854775807 := hsl.2.1
  have hm2 : m ≤ 9223372036854775807 := hsl2.2.1
  have HL := Lib.hid hsl.1
  have HL2 := Lib.hid hsl2.1
  obtain ⟨i0, hi0, hz0, hz1, hz2⟩ := info_parts cl_memory_info
  go_enter Tryz.func23, Tryz.ntmps23
  go_wp2_with fail
  refine (steps_CheckMemory A n c la w hE hsl).mono ?_
  rintro e w1 ⟨rfl, hb1⟩
  cases h0 : (checkMemoryS la == 0)
  · have hne : checkMemoryS la ≠ 0 := by simpa using h0
    have hbn : (checkMemoryS la != 0) = true := by simpa using h0
    have HV := Lib.hid (joined_a (lb := lb) hne)
    have HN := Lib.hid hne
    clear hne
    go_wp2
    go_ret2
    exact JoinedPost.bad HV.out HN.out hb1
  have hza : checkMemoryS la = 0 := by simpa using h0
  have hbn : (checkMemoryS la != 0) = false := by simpa using h0
  have HZ := Lib.hid hza
  rw [hza] at hbn ⊢
  clear hza h0 hbn
  go_wp2_with fail
  refine (steps_CheckMemory B m d lb w1 (hE.then_ hb1) (sl_call hsl2 hb1 (Nat.le_refl _))).mono ?_
  rintro e w2 ⟨rfl, hb2⟩
  have hb02 := fr_call hb1 hb2
  clear hb1 hb2
  cases h0 : (checkMemoryS lb == 0)
  · have hne : checkMemoryS lb ≠ 0 := by simpa using h0
    have hbn : (checkMemoryS lb != 0) = true := by simpa using h0
    have HV := Lib.hid (joined_b HZ.out hne)
    have HN := Lib.hid hne
    clear hne
    go_wp2
    go_ret2
    exact JoinedPost.bad HV.out HN.out hb02
  have hzb : checkMemoryS lb = 0 := by simpa using h0
  have HZ2 := Lib.hid hzb
  rw [hzb]
  clear hzb h0
  have HJ := Lib.hid (joined_rest HZ.out HZ2.out)
  have HM := Lib.hid (memory_ok HZ.out)
  have HM2 := Lib.hid (memory_ok HZ2.out)
  have hn5 : n ≤ 500 := by have := (memory_parts HZ.out).1; have := HL.out; omega
  have hm5 : m ≤ 500 := by have := (memory_parts HZ2.out).1; have := HL2.out; omega
  have hmm := @run_makeMap Tryz.prog
  obtain ⟨mb, hmb⟩ : ∃ mb, mb = w2.heap.size := ⟨_, rfl⟩
  have hwm : w.heap.size ≤ mb := by have := hb02.size; omega
  have hM0 : MapIs Tryz.prog 9 (w2.alloc (.map #[] 0)) mb 0 (setOf (namesOf (la.take 0))) := by
    rw [hmb]
    exact (MapIs.made (P := Tryz.prog) (k := 9) w2).congr fun key => by simp [setOf, namesOf]
  have hb3 := fr_alloc hb02 (.map #[] 0)
  go_wp2_with fail
  rw [← hmb]
  clear hmm hmb hb02
  generalize w2.alloc (.map #[] 0) = W3 at hM0 hb3 ⊢
  go_loopw [27] (fun iv wx => ∃ k nn : Nat, k ≤ n ∧ iv = .int .i64 k ∧ nn ≤ k ∧ MapIs Tryz.prog 9 wx mb nn (setOf (namesOf (la.take k))) ∧ Below w.heap.size w wx) (fun iv _ => n - (intOf iv).toNat)
  case atStart => exact ⟨0, 0, Nat.zero_le _, rfl, Nat.zero_le _, hM0, hb3⟩
  case round =>
    clear hM0 hb3
    obtain ⟨k, nn, hk, rfl, hnn, hM, hbel⟩ := hrel
    by_cases hlt : k < n
    · have hkI : (k : Int) < (n : Int) := by omega
      obtain ⟨b, o, x, rfl, hbb, hx, A1, n1, c1, A2, n2, c2, A3, n3, c3, ⟨z1, z2, z3, z4, z5⟩, _, _, q0, q1, q2, q3, q4, q5, q6, q7⟩ := (hsl.keep (keep_lt hbel)).memory hlt
      have HX := Lib.hid hx; clear hx
      have r0 := (mem_box wr x A1 n1 c1 A2 n2 c2 A3 n3 c3).cell (i := 0) rfl
      have hbx : Below wr.heap.size wr (wr.alloc (.cells #[.string x.name, .string x.action, .slice A1 n1 c1, .int .i64 x.result.code, .string x.result.text, .slice A2 n2 c2, .slice A3 n3 c3, .int .i64 x.result.command] 59)) := fr_alloc (fr_refl wr) _
      have hM1 := hM.call hbx
      have hbel1 := fr_call hbel hbx
      have HS := Lib.hid (fun key => set_more (namesOf (la.take k)) x.name.data.toList key)
      have HNm := Lib.hid (namesOf_more HX.out)
      clear hM hbx hbel
      go_wp2_with (at_mapUpdate; refine wpList_mapUpdate_is _ rfl _ _ _ 72 rfl Tryz.underlying9 Tryz.underlying72 rfl hM1 (by unfold maxLen; omega) x.name z1 (.bool true) rfl rfl ?_; intro w4 hmap4 hg4)
      have hM4 := hmap4.congr HS.out
      rw [← HNm.out] at hM4
      have hb4 := hbel1.grown hg4 hbel1.size fun k hk => by cases hk; omega
      clear hmap4 hg4 hM1 hbel1 r0 q0 q1 q2 q3 q4 q5 q6 q7
      go_wp2
      go_roundw
      case rel => exact ⟨k + 1, nn + 1, by omega, by go_num, by omega, hM4, hb4⟩
      case measure => simp [intOf]; omega
    · rw [List.take_of_length_le (by rw [HL.out]; omega)] at hM
      have hmbl := hM.lt
      go_wp2_with fail
      refine (steps_own A n c la wr (Lt w.heap.size) (fun b hb => Nat.lt_of_lt_of_le hb hbel.size) (hsl.keep (keep_lt hbel)) (by omega) HM.out).mono ?_
      rintro e w4 ⟨vo, rfl, hro, hb4⟩
      have hb04 := fr_call hbel hb4
      go_wp2_with fail
      refine (steps_own B m d lb w4 (Lt w.heap.size) (fun b hb => Nat.lt_of_lt_of_le hb hb04.size) (hsl2.keep (keep_lt hb04)) (by omega) HM2.out).mono ?_
      rintro e w5 ⟨v2, rfl, hr2, hb5⟩
      have hb05 := fr_call hb04 hb5
      have hz4 := hb4.size
      have hz5 := hb5.size
      have hzw := hbel.size
      -- what is copied of the second one
      obtain ⟨A9, c9, rfl, h91, h92, hs9⟩ := hr2.slNew (S := Lt w.heap.size) fun k hk => hk.2.1
      rw [HL2.out] at h91 hs9 hr2 ⊢
      have hown4 : ∀ g, vo.ownBlock = some g → wr.heap.size ≤ g ∧ g < w4.heap.size := fun g hg => ⟨(hro.kind g hg).1, hro.lt2 g hg⟩
      have hK9 : ∀ b, NewS (Lt w.heap.size) w4 w5 b → vo.ownBlock ≠ some b ∧ b < w5.heap.size := fun b hb => ⟨fun e => by
        have h1 := hown4 b e
        rcases hb.1 with h2 | h2
        · have h2 : b < w.heap.size := h2; omega
        · omega, hb.2⟩
      have hs6 := hs9.more hK9
      have hro5 : RowK w5 w.heap.size 59 (fun b => vo.ownBlock ≠ some b ∧ b < w5.heap.size) vo la := ((hro.call hb5).weaken hzw).more (fun b hb => ⟨hb.1, by have := hb.2.2; omega⟩) fun b hb => hb.2
      have hM5 := (hM.call hb4).call hb5
      clear hro hr2 hs9 hM hb4 hb5 hb04 hbel hK9
      have hro6 : RowK w5 w.heap.size 59 (fun b => vo.ownBlock ≠ some b ∧ b < w5.heap.size) vo (la ++ (lb.take 0).filter (newTo la)) := by simpa using hro5
      have hmbo : vo.ownBlock ≠ some mb := fun e => by have := hown4 mb e; omega
      have hmb5 : mb < w5.heap.size := by omega
      have HMap := Lib.hid (fun (wx : World) (hk : KeepO w5 vo.ownBlock wx) => show MapIs Tryz.prog 9 wx mb nn (setOf (namesOf la)) from hM5.keep (hk.2 mb hmb5 hmbo))
      have hwz5 : w.heap.size ≤ w5.heap.size := hb05.size
      have hownw : ∀ g, vo.ownBlock = some g → w.heap.size ≤ g := fun g hg => by have := hown4 g hg; omega
      clear hro5 hM5
      obtain ⟨oo, hoo⟩ : ∃ oo, oo = vo.ownBlock := ⟨_, rfl⟩
      rw [← hoo] at hs6 hro6 HMap hownw
      have hown6 : ∀ g, vo.ownBlock = some g → oo = some g ∨ w5.heap.size ≤ g := fun g hg => .inl (hoo.trans hg)
      clear hown4 hmbo hoo
      go_wp2
      go_loopw [11, 40] (fun v iv wx => ∃ k : Nat, k ≤ m ∧ iv = .int .i64 k ∧ RowK wx w.heap.size 59 (fun b => oo ≠ some b ∧ b < w5.heap.size) v (la ++ (lb.take k).filter (newTo la)) ∧ (∀ g, v.ownBlock = some g → oo = some g ∨ w5.heap.size ≤ g) ∧ KeepO w5 oo wx ∧ Below w.heap.size w wx) (fun _ iv _ => m - (intOf iv).toNat)
      case atStart => exact ⟨0, Nat.zero_le _, rfl, hro6, hown6, KeepO.refl _ _, hb05⟩
      case round =>
        clear hro6 hown6 hb05
        obtain ⟨k, hk, rfl, hrow, hown, hkp, hbel⟩ := hrel
        have HOwn := Lib.hid hown; clear hown
        have hneK : ∀ g, u11.ownBlock = some g → ¬ (oo ≠ some g ∧ g < w5.heap.size) := fun g hg h => by
          rcases HOwn.out g hg with h1 | h1
          · exact h.1 h1
          · omega
        have HNe := Lib.hid hneK; clear hneK
        have hlen : (la ++ (lb.take k).filter (newTo la)).length ≤ 1000 := by
          have h1 := List.length_filter_le (newTo la) (lb.take k)
          have h2 := List.length_take_le k lb
          have h3 := HL.out
          rw [List.length_append]; omega
        by_cases hlt2 : k < m
        · have hkI2 : (k : Int) < (m : Int) := by omega
          obtain ⟨b, o, x, rfl, hbb, hx, A1, n1, c1, A2, n2, c2, A3, n3, c3, ⟨z1, z2, z3, z4, z5⟩, hcs, ⟨s1, s2, s3⟩, q0, q1, q2, q3, q4, q5, q6, q7⟩ := (hs6.keep fun b hb => hkp.2 b hb.2 hb.1).memory hlt2
          have HX := Lib.hid hx; clear hx
          have hbx : Below wr.heap.size wr (wr.alloc (.cells #[.string x.name, .string x.action, .slice A1 n1 c1, .int .i64 x.result.code, .string x.result.text, .slice A2 n2 c2, .slice A3 n3 c3, .int .i64 x.result.command] 59)) := fr_alloc (fr_refl wr) _
          have hk1 := hkp.call hbx
          have hbel1 := fr_call hbel hbx
          have hlk := set_look (HMap.out _ hk1) z1
          have r0 := (mem_box wr x A1 n1 c1 A2 n2 c2 A3 n3 c3).cell (i := 0) rfl
          cases hd : decide (x.name.data.toList ∈ namesOf la)
          · rw [hd] at hlk
            have HF := Lib.hid (show la ++ (lb.take (k + 1)).filter (newTo la) = (la ++ (lb.take k).filter (newTo la)) ++ [x] by rw [filter_take HX.out, newTo, hd]; simp)
            clear hd
            obtain ⟨L, hL⟩ : ∃ L, L = la ++ (lb.take k).filter (newTo la) := ⟨_, rfl⟩
            rw [← hL] at HF hrow hlen
            clear hL
            have hW9 : Below wr.heap.size wr ((wr.alloc (.cells #[.string x.name, .string x.action, .slice A1 n1 c1, .int .i64 x.result.code, .string x.result.text, .slice A2 n2 c2, .slice A3 n3 c3, .int .i64 x.result.command] 59)).alloc (.cells #[.string x.name, .string x.action, .slice A1 n1 c1, .int .i64 x.result.code, .string x.result.text, .slice A2 n2 c2, .slice A3 n3 c3, .int .i64 x.result.command] 59)) := fr_alloc hbx _
            obtain ⟨hK9, rows, hrows, hown9, hrep9⟩ := hrow.call hW9
            have hx9 : Rep.rep ((wr.alloc (.cells #[.string x.name, .string x.action, .slice A1 n1 c1, .int .i64 x.result.code, .string x.result.text, .slice A2 n2 c2, .slice A3 n3 c3, .int .i64 x.result.command] 59)).alloc (.cells #[.string x.name, .string x.action, .slice A1 n1 c1, .int .i64 x.result.code, .string x.result.text, .slice A2 n2 c2, .slice A3 n3 c3, .int .i64 x.result.command] 59)) (fun b => oo ≠ some b ∧ b < w5.heap.size) x (memCells x A1 n1 c1 A2 n2 c2 A3 n3 c3) := by
              have hkk : ∀ b, (oo ≠ some b ∧ b < w5.heap.size) → ((wr.alloc (.cells #[.string x.name, .string x.action, .slice A1 n1 c1, .int .i64 x.result.code, .string x.result.text, .slice A2 n2 c2, .slice A3 n3 c3, .int .i64 x.result.command] 59)).alloc (.cells #[.string x.name, .string x.action, .slice A1 n1 c1, .int .i64 x.result.code, .string x.result.text, .slice A2 n2 c2, .slice A3 n3 c3, .int .i64 x.result.command] 59)).heap[b]? = wr.heap[b]? := fun b hb => hW9.block b (Nat.lt_of_lt_of_le hb.2 hkp.1)
              exact ⟨A1, n1, c1, A2, n2, c2, A3, n3, c3, rfl, ⟨z1, z2, z3, z4, z5⟩, hcs, s1.keep hkk, s2.keep hkk, s3.keep hkk⟩
            have hnew : ∀ (j' : Nat) u, (memCells x A1 n1 c1 A2 n2 c2 A3 n3 c3)[j']? = some u → ((wr.alloc (.cells #[.string x.name, .string x.action, .slice A1 n1 c1, .int .i64 x.result.code, .string x.result.text, .slice A2 n2 c2, .slice A3 n3 c3, .int .i64 x.result.command] 59)).alloc (.cells #[.string x.name, .string x.action, .slice A1 n1 c1, .int .i64 x.result.code, .string x.result.text, .slice A2 n2 c2, .slice A3 n3 c3, .int .i64 x.result.command] 59)).cell? ((⟨wr.heap.size + 1, 0, none⟩ : Addr).add j') = some u := fun j' u hu => by
              have := new_cells (wr.alloc (.cells #[.string x.name, .string x.action, .slice A1 n1 c1, .int .i64 x.result.code, .string x.result.text, .slice A2 n2 c2, .slice A3 n3 c3, .int .i64 x.result.command] 59)) #[.string x.name, .string x.action, .slice A1 n1 c1, .int .i64 x.result.code, .string x.result.text, .slice A2 n2 c2, .slice A3 n3 c3, .int .i64 x.result.command] 59 j' u hu
              rwa [World.size_alloc] at this
            have HNew := Lib.hid hnew
            have H9 := Lib.hid hown9
            have hz9 := hW9.size
            have HRow := Lib.hid hrow
            clear hrow hown9 hnew
            go_wp2_with (at_builtin; refine wpList_append_lies _ rfl _ _ 51 rfl w.heap.size 59 i0 _ 8 136 Tryz.underlying51 hi0 hz0 hz1 hz2 rfl (by decide) _ L.length _ rfl H9.out ⟨wr.heap.size + 1, 0, none⟩ 1 1 (memCells x A1 n1 c1 A2 n2 c2 A3 n3 c3) rfl rfl HNew.out (mem_cells_one x A1 n1 c1 A2 n2 c2 A3 n3 c3) (by decide) (by unfold maxLen; omega) (by omega) (by have := hbel.size; omega) _ rfl ?_)
            intro g' cap w9 hown10 hg9 hat9 hlt9
            have hrow10 := RowK.append (x := x) (r := memCells x A1 n1 c1 A2 n2 c2 A3 n3 c3) hK9 hrows hrep9 hx9 HNe.out hg9 hown10
            rw [← HF.out] at hrow10
            have hk9 := (hkp.call hW9).grown hg9 HOwn.out
            have hb9 := (fr_call hbel hW9).grown hg9 (by have := hbel.size; omega) fun b hb => by
              rcases HOwn.out b hb with h1 | h1
              · exact hownw b h1
              · omega
            have HOw := Lib.hid (show ∀ g, (Value.slice (some ⟨g', 0, none⟩) (L.length + 1) cap).ownBlock = some g → oo = some g ∨ w5.heap.size ≤ g from fun g hg => by
              obtain rfl : g' = g := by simpa [Value.ownBlock] using hg
              rcases hat9 with h1 | h1
              · exact HOwn.out _ h1
              · have := hkp.1
                exact .inr (by omega))
            have HR10 := Lib.hid hrow10
            have HK10 := Lib.hid hk9
            clear hown10 hg9 hat9 hlt9 hrow10 hk9 hx9 hrep9 HNew H9 hlk r0 q0 q1 q2 q3 q4 q5 q6 q7 hk1 hbel1 hbx hW9 HF
            go_wp2
            go_roundw
            case rel => exact ⟨k + 1, by omega, by go_num, HR10.out, HOw.out, HK10.out, hb9⟩
            case measure => simp [intOf]; omega
          · rw [hd] at hlk
            have hF : la ++ (lb.take (k + 1)).filter (newTo la) = la ++ (lb.take k).filter (newTo la) := by rw [filter_take HX.out, newTo, hd]; simp
            have HR1 := Lib.hid (hrow.call hbx)
            rw [← hF] at HR1
            have HK1 := Lib.hid hk1
            clear hd hF hrow hkp
            go_wp2
            go_roundw
            case rel => exact ⟨k + 1, by omega, by go_num, HR1.out, HOwn.out, HK1.out, hbel1⟩
            case measure => simp [intOf]; omega
        · have hall : la ++ (lb.take k).filter (newTo la) = bothS la lb := by rw [List.take_of_length_le (by rw [HL2.out]; omega)]; rfl
          rw [hall] at hrow hlen
          clear hall
          obtain ⟨A7, c7, hv7⟩ := hrow.form
          have HS := Lib.hid (sort_memories u11 (bothS la lb) w.heap.size (fun b => oo ≠ some b ∧ b < w5.heap.size) wr hrow HNe.out (by omega))
          have hrl := hrow
          rw [hv7] at HS hrow ⊢
          clear hv7 hrl
          obtain ⟨N, hN⟩ : ∃ N, N = (bothS la lb).length := ⟨_, rfl⟩
          have HNe2 := Lib.hid hN
          rw [← hN] at HJ HS hrow hlen ⊢
          clear hN
          by_cases hbig : (500 : Int) < (N : Int)
          · have HV := Lib.hid (show joinedErr la lb = 2 by rw [HJ.out, if_pos hbig])
            go_wp2
            go_ret2
            exact JoinedPost.bad HV.out (by decide) hbel
          · have HV := Lib.hid (show joinedErr la lb = 0 by rw [HJ.out, if_neg hbig])
            go_wp2_with fail
            refine HS.out.mono ?_
            rintro e w9 ⟨rfl, l', hp, hso, hrow9, hg9⟩
            have hl9 : l'.length = N := by rw [HNe2.out, hp.length_eq]
            obtain ⟨A', c', hv', h1, h2, h3⟩ := hrow9.sl
            rw [hl9] at hv' h1 h3
            cases hv'
            have hb9 := hbel.grown hg9 hbel.size fun b hb => by
              have := (hrow.kind b hb).1; exact this
            have HE := Lib.hid (JoinedPost.good (A := A7) (n := N) (c := c7) HV.out h1 h2 ⟨hp, hso⟩ h3 hb9)
            clear hrow9 hg9 h3 hrow
            go_wp2
            go_ret2
            exact HE.out
end Go.Proofs.Sm

namespace Go.Proofs.Sm
open Go.RowKit

def mem0 : MemoryV := ⟨⟨#[97]⟩, ⟨#[48, 49, 50, 51, 52, 53, 54, 55, 56, 57, 97, 98, 99, 100, 101, 102]⟩, [], ⟨0, ⟨#[]⟩, [], [], 0⟩⟩
theorem mem0_err : joinedErr [] [mem0] = 0 := by decide +kernel
theorem mem0_out {out : List MemoryV} (h : JoinedIs [] [mem0] out) : out = [mem0] := by
  have h1 : bothS [] [mem0] = [mem0] := by rw [bothS, List.nil_append, List.filter_cons]; rfl
  have h2 := h.1
  rw [h1] at h2
  exact List.perm_singleton.1 h2
set_option maxHeartbeats 1000000 in
set_option maxRecDepth 100000 in
theorem law6_awake (w : World) (hE : Env w) : Calls Tryz.prog 8 #[] w fun e w' => e = .returned (.bool true) ∧ Below w.heap.size w w' := by
  have hb0 : Below w.heap.size w (w.alloc (.cells #[.string mem0.name, .string mem0.action, .slice none 0 0, .int .i64 0, .string ⟨#[]⟩, .slice none 0 0, .slice none 0 0, .int .i64 0] 59)) := fr_alloc (fr_refl w) _
  have hs0 : Sl (w.alloc (.cells #[.string mem0.name, .string mem0.action, .slice none 0 0, .int .i64 0, .string ⟨#[]⟩, .slice none 0 0, .slice none 0 0, .int .i64 0] 59)) (Lt (w.alloc (.cells #[.string mem0.name, .string mem0.action, .slice none 0 0, .int .i64 0, .string ⟨#[]⟩, .slice none 0 0, .slice none 0 0, .int .i64 0] 59)).heap.size) (some ⟨w.heap.size, 0, none⟩) 1 [mem0] := by
    refine ⟨rfl, by unfold maxLen; decide, fun _ => ⟨_, _, rfl, by show w.heap.size < _; rw [World.size_alloc]; omega, fun i x hx => ?_⟩⟩
    cases i with
    | succ i => simp at hx
    | zero =>
      obtain rfl : mem0 = x := by simpa using hx
      refine ⟨memCells mem0 none 0 0 none 0 0 none 0 0, ⟨none, 0, 0, none, 0, 0, none, 0, 0, rfl, ⟨by decide, by decide, by decide, ⟨by decide, by decide⟩, ⟨by decide, by decide⟩⟩, ⟨by decide, by decide, by decide, by decide, by decide, by decide⟩, Sl.nil, Sl.nil, Sl.nil⟩, fun j v hv => ?_⟩
      have hA : Arr (w.alloc (.cells #[.string mem0.name, .string mem0.action, .slice none 0 0, .int .i64 0, .string ⟨#[]⟩, .slice none 0 0, .slice none 0 0, .int .i64 0] 59)) w.heap.size 59 (memCells mem0 none 0 0 none 0 0 none 0 0) := heap_alloc_new w _
      have := hA.cell hv
      simpa using this
  have HJ := Lib.hid (steps_Joined none (some ⟨w.heap.size, 0, none⟩) 0 0 1 1 [] [mem0] _ (hE.then_ hb0) Sl.nil hs0)
  have HB := Lib.hid hb0
  clear hb0 hs0
  go_enter Tryz.func8, Tryz.ntmps8
  go_wp2_with fail
  refine HJ.out.mono ?_
  rintro e w1 ⟨v, rfl, _, hgood, hb1⟩
  obtain ⟨A, n, c, out, rfl, hn, hc, hj, hs⟩ := hgood mem0_err
  obtain rfl := mem0_out hj
  obtain rfl : 1 = n := hs.1
  rw [mem0_err]
  obtain ⟨b, o, x, rfl, _, hx, A1, n1, c1, A2, n2, c2, A3, n3, c3, _, _, _, q0, _⟩ := hs.memory (k := 0) (by decide)
  obtain rfl : mem0 = x := by simpa using hx
  rw [Nat.zero_mul, Nat.add_zero] at q0
  have hbe := fr_call HB.out hb1
  have hnm : (mem0.name.toList == [97]) = true := by decide +kernel
  clear hgood hj hs hb1 HJ hx
  go_wp2
  go_ret
  exact ⟨rfl, hbe⟩
theorem names_le {w : World} {S : Nat → Prop} {A : Option Addr} {n : Nat} {l : List RuleV} (h : Sl w S A n l) (k : Nat) : (nameAt l k).size ≤ maxLen := by
  unfold nameAt
  cases hx : l[k]? with
  | none => simp; unfold maxLen; decide
  | some x =>
    obtain ⟨_, _, y, _, _, hy, hs, _⟩ := h.ruleName (k := k) (by rw [← h.1]; exact (List.getElem?_eq_some_iff.1 hx).1)
    rw [hx] at hy
    obtain rfl := Option.some.inj hy
    exact hs
theorem edges_sizes {l : List RuleV} (h : ∀ k, (nameAt l k).size ≤ maxLen) : ∀ x ∈ edgesS l, x.name.size ≤ maxLen ∧ x.value.size ≤ maxLen := by
  intro x hx
  rw [edgesS, edgesTo, List.mem_flatMap] at hx
  obtain ⟨i, _, hx⟩ := hx
  rw [edgesAt, List.mem_map] at hx
  obtain ⟨k, _, rfl⟩ := hx
  exact ⟨h i, h k⟩
theorem edges_sl {w : World} {q : Nat} {v : Value} {l : List VarV} (hs : ∀ x ∈ l, x.name.size ≤ maxLen ∧ x.value.size ≤ maxLen) (h : w.ownsRow q 33 2 v l.length (l.flatMap edgeCells)) : ∃ A c, v = .slice A l.length c ∧ Sl w (Lt w.heap.size) A l.length l := by
  obtain ⟨A, c, h1, _, _, h2⟩ := Sl.of_own (α := VarV) (cells := edgeCells) (fun _ => rfl) (fun x hx => ⟨rfl, (hs x hx).1, (hs x hx).2⟩) h
  exact ⟨A, c, h1, h2⟩
set_option maxHeartbeats 1000000 in
set_option maxRecDepth 100000 in
theorem law_rules (A : Option Addr) (n c : Nat) (l : List RuleV) (w : World) (hE : Env w) (hsl : Sl w (Lt w.heap.size) A n l) :
    Calls Tryz.prog 4 #[.slice A n c] w fun e w' => e = .returned (.bool true) ∧ Below w.heap.size w w' := by
  have HS := Lib.hid (edges_sizes (names_le hsl))
  go_enter Tryz.func4, Tryz.ntmps4
  go_wp2_with fail
  refine (steps_Edges A n c l w hE hsl).mono ?_
  rintro e w1 ⟨v1, rfl, hbad1, hgood1, b1⟩
  have hsl1 := sl_call hsl b1 (Nat.le_refl _)
  go_wp2_with fail
  refine (ref6_Edges A n c l w1 (hE.then_ b1) hsl1).mono ?_
  rintro e w2 ⟨v2, rfl, hbad2, hgood2, b2⟩
  have b12 := fr_call b1 b2
  have hsl2 := sl_call hsl1 b2 (Nat.le_refl _)
  obtain ⟨A1, A2, k, c1, c2, m, rfl, rfl, s1, s2⟩ : ∃ (A1 A2 : Option Addr) (k c1 c2 : Nat) (m : List VarV), v1 = .slice A1 k c1 ∧ v2 = .slice A2 k c2 ∧ Sl w2 (Lt w2.heap.size) A1 k m ∧ Sl w2 (Lt w2.heap.size) A2 k m := by
    by_cases h0 : checkRulesS l = 0
    · obtain ⟨q1, _, o1⟩ := hgood1 h0
      obtain ⟨q2, _, o2⟩ := hgood2 h0
      obtain ⟨A1, c1, e1, s1⟩ := edges_sl HS.out o1
      obtain ⟨A2, c2, e2, s2⟩ := edges_sl HS.out o2
      exact ⟨A1, A2, _, c1, c2, _, e1, e2, sl_call s1 b2 (Nat.le_refl _), s2⟩
    · exact ⟨none, none, 0, 0, 0, [], hbad1 h0, hbad2 h0, Sl.nil, Sl.nil⟩
  clear hbad1 hgood1 hbad2 hgood2 hsl1 b1 b2
  generalize hR : checkRulesS l = R
  have HC := Lib.hid (fun (W : World) (hW : Below w2.heap.size w2 W) => steps_CheckRules A n c l W (hE.then_ (fr_call b12 hW)) (sl_call hsl2 hW (Nat.le_refl _)))
  have HC2 := Lib.hid (fun (W : World) (hW : Below w2.heap.size w2 W) => ref6_CheckRules A n c l W (hE.then_ (fr_call b12 hW)) (sl_call hsl2 hW (Nat.le_refl _)))
  rw [hR] at HC HC2
  clear hR
  go_wp2_with fail
  refine (HC.out w2 (fr_refl w2)).mono ?_
  rintro e w3 ⟨rfl, b3⟩
  go_wp2_with fail
  refine (HC2.out w3 b3).mono ?_
  rintro e w4 ⟨rfl, b4⟩
  have b34 := fr_call b3 b4
  have t1 := sl_call s1 b34 (Nat.le_refl _)
  have t2 := sl_call s2 b34 (Nat.le_refl _)
  go_wp2_with fail
  refine (equal_edges A1 A2 k c1 c2 m w4 t1 t2).mono ?_
  rintro e w5 ⟨rfl, b5⟩
  have b5' := fr_call (fr_call b12 b34) b5
  go_wp2_with fail
  refine (law6_awake w5 (hE.then_ b5')).mono ?_
  rintro e w6 ⟨rfl, b6⟩
  go_wp2
  go_ret
  exact ⟨rfl, fr_call b5' b6⟩
end Go.Proofs.Sm

namespace Go.Proofs.YtogjdgpghpkgmaaGreatDoor.rules
open Go.ChangeShapes Go.WideShapes Go.ChangeAt Go.RowKit Go.Proofs.Sm

noncomputable def laidWorld (os : Os) : World := errWorld (tableWorld os [(1, Rows.laid_unicode_utf8_first), (2, Rows.laid_unicode_utf8_acceptRanges), (5, Rows.laid_internal_strconv_uint64pow10), (6, Rows.laid_math_bits_deBruijn32tab), (7, Rows.laid_math_bits_deBruijn64tab)])
  230 232 [(4, [118, 97, 108, 117, 101, 32, 111, 117, 116, 32, 111, 102, 32, 114, 97, 110, 103, 101]), (3, [105, 110, 118, 97, 108, 105, 100, 32, 115, 121, 110, 116, 97, 120])]
theorem laid_met (os : Os) (args : Array Value) : laidMet Tryz.prog Rows.stepsRulesMatchSpecRow.laid ((laidWorld os).forCall (fun _ _ => 0) ⟨#[], args, []⟩).memory :=
  (LaidIn.of_run (l := Rows.stepsRulesMatchSpecRow.laid) (List.range 30) 8 (by kernel_rfl) (by kernel_rfl) (by kernel_rfl) (by kernel_rfl)).met
theorem reads (os : Os) {H : Type} (enc : TypeId × Value → H) : ∃ ds places, DataW.whole enc Tryz.prog ((laidWorld os).forCall (fun _ _ => 0) ⟨#[], #[.slice none 0 0], []⟩).memory Tryz.f4.params.toList Rows.stepsRulesMatchSpecSpec.vars false #[Value.slice none 0 0].toList 8 = some (ds, [], places) :=
  ⟨[.nil], [], by kernel_rfl⟩

set_option maxRecDepth 100000 in
theorem contract (H : Type) (enc : TypeId × Value → H) (W : World) (base : Nat) (args : Array Value) (ds gs : List (DataW H)) (before : List MemPlace)
    (hval : ∀ (j : Nat) t v, Tryz.f4.params[j]? = some t → args[j]? = some v → Value.okWide Tryz.prog W .any base t v)
    (hW : DataW.Whole enc Tryz.prog Tryz.f4.params.toList Rows.stepsRulesMatchSpecSpec.vars false W args.toList ds gs before) (hE : Env W) :
    Calls Tryz.prog 4 args W fun e W' => ∃ v, e = .returned v ∧ Rows.stepsRulesMatchSpecSpec.post enc Tryz.prog Tryz.f4 false true false false W args v W' := by
  have hW' := hW
  obtain ⟨p, q, hA0, hV, rfl, hfz, hnd⟩ := hW
  have hA : DataW.TrodAll enc Tryz.prog W 0 (fun _ => true) true Tryz.f4.params.toList args.toList ds p := hA0
  rw [Tryz.params4] at hA hval
  obtain ⟨v0, vs0, d0, ds0, p0, q0, hargs, rfl, rfl, h0, r0⟩ := trodAll_cons hA
  obtain ⟨rfl, rfl, rfl⟩ := trodAll_nil r0
  obtain rfl : args = #[v0] := by cases args; simp_all
  obtain ⟨rfl, rfl⟩ := trodVars_none hV
  have k0 := h0
  have lt0 : ∀ x ∈ p0, x.block < W.heap.size := by obtain ⟨m, hm⟩ := k0; exact DataW.trod_lt m _ _ _ hm
  obtain ⟨A0, n0, c0, l0, rfl, hs0⟩ := arg_slice dec_rules (okWide_slice Tryz.underlying22 (hval 0 22 v0 rfl rfl)) h0
  clear hA0
  refine (law_rules A0 n0 c0 l0 W hE hs0).mono fun e W' ⟨he, bel⟩ => ?_
  subst he
  exact ⟨_, rfl, _, _, _, [], _, [], hW', trodAll_mk1 (shut_bool Tryz.underlying4 _), (trodAll_cons_mk (Below.trod laidOut (by kernel_rfl) (of_decide_eq_true (by kernel_rfl)) k0 bel lt0) trodAll_mk0), rfl, bel.frame _, fun h => by cases h⟩

set_option maxRecDepth 100000 in
theorem lifted (os : Os) (started : os.Started) (H : Type) (enc : TypeId × Value → H) (F : Stop.Interp) :
    ReturnsInHanded {} Tryz.checked os 4 .any ((OpenSpec.ofChange Rows.stepsRulesMatchSpecSpec).preRow enc Tryz.prog Tryz.f4 Rows.stepsRulesMatchSpecRow.domain false Rows.stepsRulesMatchSpecRow.laid) (((OpenSpec.ofChange Rows.stepsRulesMatchSpecSpec).at F).post enc Tryz.prog Tryz.f4 false true false false) := by
  obtain ⟨d, places, hx⟩ := reads os enc
  refine returnsInHanded_of_row (C := Tryz.checked) (s := OpenSpec.ofChange Rows.stepsRulesMatchSpecSpec) own started (by kernel_rfl) Tryz.func4
    (witness_row_atRef (enc := enc) (C := Tryz.checked) false (laidWorld os) #[.slice none 0 0] rfl (by kernel_rfl) (by kernel_rfl) (by kernel_rfl)
      (OpenSpec.preRow_of_cond 8 hx (by kernel_rfl) (fun k hk => by cases hk) (by kernel_rfl) (laid_met os _))) ?_
  intro W base args ds gs before hval hW _ _ _ hL hS _
  exact contract H enc W base args ds gs before hval hW (env_of hL hS (by simp [Rows.stepsRulesMatchSpecRow, Rows.laid_unicode_utf8_first]) (by simp [Rows.stepsRulesMatchSpecRow]))

theorem said : Rows.StepsRulesMatchSpecSaid :=
  OpenClaim.holds_of_cond 4 Tryz.f4 rfl rfl rfl rfl rfl rfl rfl ⟨rfl, rfl, rfl, rfl, rfl⟩ rfl rfl rfl rfl rfl (by kernel_rfl) Tryz.func4 closed
    (of_decide_eq_true (by as_aux_lemma => kernel_rfl)) (by unfold Func.isWrapper; first | (rw [if_pos (by decide +kernel)]; kernel_rfl) | (rw [if_neg (by decide +kernel)]; exact ⟨rfl, rfl⟩))
    (fun os started H enc _ F => by rw [OpenClaim.pre_eq_preRow]; exact lifted os started H enc F)

theorem plain (f : FuncId) (fn : Func) (hf : Tryz.pinned.checked.prog.funcNamed Rows.stepsRulesMatchSpecRow.func = some f) (hfn : Tryz.pinned.checked.prog.funcs[f]? = some fn) :
    true = Tryz.pinned.checked.prog.looks [] ∧ ∀ (j : Nat) t, fn.params[j]? = some t → Tryz.pinned.checked.prog.wantsStandIn t = false := by
  obtain rfl : f = 4 := Option.some.inj ((show Tryz.prog.funcNamed Rows.stepsRulesMatchSpecRow.func = some 4 by kernel_rfl).symm.trans hf) |>.symm
  obtain rfl : fn = Tryz.f4 := (Option.some.inj (Tryz.func4.symm.trans hfn)).symm
  refine ⟨by kernel_rfl, fun j t ht => ?_⟩
  rw [Tryz.params4] at ht
  have hm : t = 22 := by simpa using Array.mem_of_getElem? ht
  subst hm
  exact (show Tryz.prog.wantsStandIn 22 = false by kernel_rfl)

/-- The card. -/
theorem card : Rows.StepsRulesMatchSpecCardSaid :=
  Claim7.holds_tied_plain_at .later [] _ _ _ _ said (fun _ h => by cases h) (by as_aux_lemma => kernel_rfl) (fun _ h => by cases h) stepsRulesMatchSpec_row_tie rfl ⟨rfl, rfl⟩ (by as_aux_lemma => kernel_rfl) rfl plain (by as_aux_lemma => kernel_rfl)
end Go.Proofs.YtogjdgpghpkgmaaGreatDoor.rules
