/- Plain words: the digest of bytes. -/
import Derived.WalkKit
import Derived.ProofKit
import Derived.Lib.Hide
import Derived.Deep.Slices
import Derived.Laws.BytesArg
import Derived.Deep.Draws
import Derived.Test.YtkdogcpgbogkhaaGreatDoorProg
import Derived.Test.YtkdogcpgbogkhaaGreatDoorShelf
import Derived.WalkSpells
import Derived.WalkLawsBesides
import Derived.BigQuiet
import Derived.Deep.QuietTactic
import Derived.Outline
import Derived.Deep.DeepFit
import Derived.Deep.LoopGhost
import Derived.Deep.DeepCutAuto
import Derived.Maps.OwnOps
import Derived.Maps.OwnSet
import Derived.Deep.AppendLies
import Derived.Lib.FrozenHead2
import Derived.Lib.UnsafeStr
import Derived.Lib.BufferWrite
import Derived.OwnWalk
import Derived.Lib.Strings
import Derived.Lib.SplitLaws
import Derived.Lib.SlTrimSet
import Derived.Laws.BitsAllLaws
namespace Go.Proofs.Sm
open Go.RowKit

/-! ### Endings -/
theorem ret_bool {a b : Bool} (h : a = b) : Ending.returned (.bool a) = .returned (.bool b) := by rw [h]
theorem ret_int {k : IntKind} {a b : Int} (h : a = b) : Ending.returned (.int k a) = .returned (.int k b) := by rw [h]
theorem ret_string {a b : ByteArray} (h : a = b) : Ending.returned (.string a) = .returned (.string b) := by rw [h]

theorem of_not {b : Bool} (h : (!b) = true) : b = false := by simpa using h
theorem of_not' {b : Bool} (h : (!b) = false) : b = true := by simpa using h

/-! ### Cells behind a call -/
theorem bcell {W w1 : World} (hb : Below W.heap.size W w1) :
    (∀ b o, b < W.heap.size → w1.cell? ⟨b, o, none⟩ = W.cell? ⟨b, o, none⟩) ∧ (∀ b o, b < W.heap.size → w1.frozen? ⟨b, o, none⟩ = W.frozen? ⟨b, o, none⟩) :=
  ⟨fun b o h => hb.cell (p := ⟨b, o, none⟩) h, fun b o h => hb.frozen (p := ⟨b, o, none⟩) h⟩
/-- behind a box and a call the heap has grown -/
theorem grew {W w1 : World} {o : Obj} (hb : Below (W.alloc o).heap.size (W.alloc o) w1) : W.heap.size < w1.heap.size := by
  have := hb.size
  simp at this
  omega
theorem fr_refl (a : World) : Below a.heap.size a a := Below.refl _ _
theorem fr_alloc {a w : World} (h : Below a.heap.size a w) (o : Obj) : Below a.heap.size a (w.alloc o) := h.alloc h.size o
theorem fr_call {a w w1 : World} (h : Below a.heap.size a w) (hb : Below w.heap.size w w1) : Below a.heap.size a w1 := h.trans (hb.mono h.size)
theorem fr_box {a w w1 : World} {o : Obj} (h : Below a.heap.size a w) (hb : Below (w.alloc o).heap.size (w.alloc o) w1) : Below a.heap.size a w1 := fr_call (fr_alloc h o) hb
theorem fr_set {a w : World} (h : Below a.heap.size a w) {p : Addr} (hp : a.heap.size ≤ p.block) (u : Value) : Below a.heap.size a (w.setCell p u) := h.setCell hp u
theorem below_drewN {B : Nat} {a w : World} (h : Below B a w) (n : Nat) : Below B a (w.drewN n) := ⟨h.os, h.tape, h.output, h.size, h.block⟩
theorem of_drewN {B : Nat} {w w1 : World} {n : Nat} (h : Below B (w.drewN n) w1) : Below B w w1 := ⟨h.os, h.tape, h.output, h.size, h.block⟩
theorem of_drew {B : Nat} {w w1 : World} (h : Below B w.drew w1) : Below B w w1 := ⟨h.os, h.tape, h.output, h.size, h.block⟩
theorem below_eq {B : Nat} {w w1 : World} (h : w = w1) : Below B w w1 := h ▸ Below.refl _ _
theorem below_drewn {B : Nat} {w w1 : World} (h : ∃ n, w1 = w.drewN n) : Below B w w1 := by
  obtain ⟨n, rfl⟩ := h
  exact below_drewN (Below.refl _ _) n

/-! ### Bytes of a string -/
theorem all_step {p : UInt8 → Bool} {s : ByteArray} {k : Nat} (hlt : k < s.size) (h : (s.data.toList.take k).all p = true) (hp : p s[k] = true) :
    (s.data.toList.take (k + 1)).all p = true := by
  rw [List.take_succ_eq_append_getElem (by simpa using hlt), List.all_append, h]
  simp; exact hp
theorem all_no {p : UInt8 → Bool} {s : ByteArray} {k : Nat} (hlt : k < s.size) (hp : p s[k] = false) : s.data.toList.all p = false := by
  rw [List.all_eq_false]
  refine ⟨s[k], ?_, by simp [hp]⟩
  have h : s.data[k]'hlt ∈ s.data := Array.getElem_mem hlt
  exact Array.mem_toList_iff.2 h
theorem all_end {p : UInt8 → Bool} {s : ByteArray} {k : Nat} (hlt : ¬ k < s.size) (h : (s.data.toList.take k).all p = true) : s.data.toList.all p = true := by
  rwa [List.take_of_length_le (by simp; exact Nat.le_of_not_lt hlt)] at h

theorem lall_step {α : Type} {p : α → Bool} {l : List α} {k : Nat} {x : α} (hx : l[k]? = some x) (h : (l.take k).all p = true) (hp : p x = true) : (l.take (k + 1)).all p = true := by
  rw [List.take_add_one, hx, List.all_append, h]
  simp [hp]
theorem lall_no {α : Type} {p : α → Bool} {l : List α} {k : Nat} {x : α} (hx : l[k]? = some x) (hp : p x = false) : l.all p = false := by
  rw [List.all_eq_false]
  exact ⟨x, List.mem_of_getElem? hx, by simp [hp]⟩
theorem lall_end {α : Type} {p : α → Bool} {l : List α} {k : Nat} (hlt : ¬ k < l.length) (h : (l.take k).all p = true) : l.all p = true := by
  rwa [List.take_of_length_le (by omega)] at h
theorem any_step {α : Type} {p : α → Bool} {l : List α} {k : Nat} {x : α} (hx : l[k]? = some x) (h : (l.take k).any p = false) (hp : p x = false) : (l.take (k + 1)).any p = false := by
  rw [List.take_add_one, hx, List.any_append, h]
  simp [hp]
theorem any_yes {α : Type} {p : α → Bool} {l : List α} {k : Nat} {x : α} (hx : l[k]? = some x) (hp : p x = true) : l.any p = true := by
  rw [List.any_eq_true]
  exact ⟨x, List.mem_of_getElem? hx, hp⟩
theorem any_end {α : Type} {p : α → Bool} {l : List α} {k : Nat} (hlt : ¬ k < l.length) (h : (l.take k).any p = false) : l.any p = false := by
  rwa [List.take_of_length_le (by omega)] at h
theorem at_lt {α : Type} {l : List α} {k : Nat} (h : k < l.length) : ∃ x, l[k]? = some x := ⟨l[k], List.getElem?_eq_getElem h⟩

/-! ### A typed reading of memory: the cells 'vs' stand for 'x', and all that they lead to lies in blocks of S -/
class Rep (α : Type) where
  sz : Nat
  rep : World → (Nat → Prop) → α → List Value → Prop
  len : ∀ {w S x vs}, rep w S x vs → vs.length = sz
  keep : ∀ {w w' : World} {S : Nat → Prop} {x vs}, (∀ k, S k → w'.heap[k]? = w.heap[k]?) → rep w S x vs → rep w' S x vs
  more : ∀ {w : World} {S S' : Nat → Prop} {x vs}, (∀ k, S k → S' k) → rep w S x vs → rep w S' x vs

def At (w : World) (b o : Nat) (vs : List Value) : Prop := ∀ j v, vs[j]? = some v → w.cell? ⟨b, o + j, none⟩ = some v
theorem At.keep {w w' : World} {b o : Nat} {vs : List Value} (h : At w b o vs) (hk : w'.heap[b]? = w.heap[b]?) : At w' b o vs :=
  fun j v hv => (World.cell?_of_block (w := w) hk).trans (h j v hv)

/-- A slice that reads as a list; nil and empty ones are let in. -/
def Sl {α : Type} [Rep α] (w : World) (S : Nat → Prop) (A : Option Addr) (n : Nat) (l : List α) : Prop :=
  l.length = n ∧ n ≤ maxLen ∧ (0 < n → ∃ b o, A = some ⟨b, o, none⟩ ∧ S b ∧ ∀ i x, l[i]? = some x → ∃ vs, Rep.rep w S x vs ∧ At w b (o + i * Rep.sz α) vs)

section
variable {α : Type} [Rep α] {w w' : World} {S S' : Nat → Prop} {A : Option Addr} {n : Nat} {l : List α}
theorem Sl.keep (hk : ∀ k, S k → w'.heap[k]? = w.heap[k]?) (h : Sl w S A n l) : Sl w' S A n l := by
  refine ⟨h.1, h.2.1, fun hn => ?_⟩
  obtain ⟨b, o, e, hb, hc⟩ := h.2.2 hn
  refine ⟨b, o, e, hb, fun i x hx => ?_⟩
  obtain ⟨vs, hr, ha⟩ := hc i x hx
  exact ⟨vs, Rep.keep hk hr, ha.keep (hk _ hb)⟩
theorem Sl.more (hs : ∀ k, S k → S' k) (h : Sl w S A n l) : Sl w S' A n l := by
  refine ⟨h.1, h.2.1, fun hn => ?_⟩
  obtain ⟨b, o, e, hb, hc⟩ := h.2.2 hn
  refine ⟨b, o, e, hs _ hb, fun i x hx => ?_⟩
  obtain ⟨vs, hr, ha⟩ := hc i x hx
  exact ⟨vs, Rep.more hs hr, ha⟩
theorem Sl.nil : Sl w S none 0 ([] : List α) := ⟨rfl, Nat.zero_le _, fun h => absurd h (by omega)⟩
theorem Sl.at {k : Nat} (h : Sl w S A n l) (hk : k < l.length) :
    ∃ b o vs, A = some ⟨b, o, none⟩ ∧ S b ∧ Rep.rep w S l[k] vs ∧ At w b (o + k * Rep.sz α) vs := by
  obtain ⟨b, o, e, hb, hc⟩ := h.2.2 (by have := h.1; omega)
  obtain ⟨vs, hr, ha⟩ := hc k l[k] (List.getElem?_eq_getElem hk)
  exact ⟨b, o, vs, e, hb, hr, ha⟩
theorem Sl.size (h : Sl w S A n l) : n ≤ maxLen := h.2.1
theorem Sl.length (h : Sl w S A n l) : l.length = n := h.1
end

/-- Below block number B. -/
def Lt (B : Nat) : Nat → Prop := fun k => k < B
theorem keep_lt {B : Nat} {w w' : World} (h : Below B w w') : ∀ k, Lt B k → w'.heap[k]? = w.heap[k]? := fun k hk => h.block k hk
theorem lt_mono {B B' : Nat} (h : B ≤ B') : ∀ k, Lt B k → Lt B' k := fun _ hk => Nat.lt_of_lt_of_le hk h

instance : Rep ByteArray where
  sz := 1
  rep _ _ x vs := vs = [.string x] ∧ x.size ≤ maxLen
  len h := by rw [h.1]; rfl
  keep _ h := h
  more _ h := h
instance : Rep Bool where
  sz := 1
  rep _ _ x vs := vs = [.bool x]
  len h := by rw [h]; rfl
  keep _ h := h
  more _ h := h
instance : Rep UInt8 where
  sz := 1
  rep _ _ x vs := vs = [.int .u8 x.toNat]
  len h := by rw [h]; rfl
  keep _ h := h
  more _ h := h
/-- Go's int. -/
def InInt (n : Int) : Prop := -9223372036854775808 ≤ n ∧ n ≤ 9223372036854775807
instance : Rep Int where
  sz := 1
  rep _ _ x vs := vs = [.int .i64 x] ∧ InInt x
  len h := by rw [h.1]; rfl
  keep _ h := h
  more _ h := h
instance {α : Type} [Rep α] : Rep (List α) where
  sz := 1
  rep w S l vs := ∃ A n c, vs = [.slice A n c] ∧ n ≤ c ∧ c ≤ maxLen ∧ Sl w S A n l
  len h := by obtain ⟨A, n, c, rfl, _⟩ := h; rfl
  keep hk h := by obtain ⟨A, n, c, e, h1, h2, h3⟩ := h; exact ⟨A, n, c, e, h1, h2, h3.keep hk⟩
  more hs h := by obtain ⟨A, n, c, e, h1, h2, h3⟩ := h; exact ⟨A, n, c, e, h1, h2, h3.more hs⟩

section
variable {w : World} {S : Nat → Prop} {A : Option Addr} {n k : Nat}
theorem Sl.str {l : List ByteArray} (h : Sl w S A n l) (hk : k < n) :
    ∃ b o x, A = some ⟨b, o, none⟩ ∧ S b ∧ l[k]? = some x ∧ x.size ≤ maxLen ∧ w.cell? ⟨b, o + k, none⟩ = some (.string x) := by
  have hk' : k < l.length := by rw [h.1]; exact hk
  obtain ⟨b, o, vs, e, hb, ⟨rfl, hs⟩, ha⟩ := h.at hk'
  have h0 := ha 0 _ rfl
  simp only [Rep.sz, Nat.mul_one, Nat.add_zero] at h0
  exact ⟨b, o, _, e, hb, List.getElem?_eq_getElem hk', hs, h0⟩
theorem Sl.byte {l : List UInt8} (h : Sl w S A n l) (hk : k < n) :
    ∃ b o x, A = some ⟨b, o, none⟩ ∧ S b ∧ l[k]? = some x ∧ w.cell? ⟨b, o + k, none⟩ = some (.int .u8 x.toNat) := by
  have hk' : k < l.length := by rw [h.1]; exact hk
  obtain ⟨b, o, vs, e, hb, rfl, ha⟩ := h.at hk'
  have h0 := ha 0 _ rfl
  simp only [Rep.sz, Nat.mul_one, Nat.add_zero] at h0
  exact ⟨b, o, _, e, hb, List.getElem?_eq_getElem hk', h0⟩
/-- A new row of strings. -/
theorem Sl.new_strs {w : World} {t : TypeId} {l : List ByteArray} (hl : l.length ≤ maxLen) (hs : ∀ x ∈ l, x.size ≤ maxLen) :
    Sl (w.alloc (.cells (l.map Value.string).toArray t)) (Lt (w.heap.size + 1)) (some ⟨w.heap.size, 0, none⟩) l.length l :=
  ⟨rfl, hl, fun _ => ⟨_, _, rfl, Nat.lt_succ_self _, fun i x hx => ⟨[.string x], ⟨rfl, hs x (List.mem_of_getElem? hx)⟩, fun j v hv => by
    have hj : j = 0 ∧ v = .string x := by
      cases j with
      | zero => simp at hv; exact ⟨rfl, hv.symm⟩
      | succ j => simp at hv
    obtain ⟨rfl, rfl⟩ := hj
    have h0 : (w.alloc (.cells (l.map Value.string).toArray t)).heap[w.heap.size]? = some (.cells (l.map Value.string).toArray t (0, 0)) := heap_alloc_new w _
    have h1 : i * Rep.sz ByteArray + 0 = i := by simp [Rep.sz]
    simp only [World.cell?, h0, Nat.zero_add, h1]
    have h2 : (l.map Value.string)[i]? = some (.string x) := by rw [List.getElem?_map, hx]; rfl
    simpa using h2⟩⟩⟩
end

/-- string(b): the bytes of a slice as a string. -/
theorem run_bytes_string {P : Program} {w : World} {S : Nat → Prop} {A : Option Addr} {n : Nat} {l : List UInt8} (h : Sl w S A n l) (src dst e : TypeId) (c : Nat)
    (hs : P.underlying src = some (.slice e)) (he : P.underlying e = some (.int .u8)) (hd : P.underlying dst = some .string) :
    (convert src dst (.slice A n c)).run P w = .ok (.string ⟨l.toArray⟩) w := by
  have hnum : ∀ l : List UInt8, strOfNums (l.map fun x => (x.toNat : Int)) = ⟨l.toArray⟩ := by
    intro l
    simp [strOfNums, Function.comp_def]
  rcases Nat.eq_zero_or_pos n with h0 | h0
  · subst h0
    have hl : l = [] := List.eq_nil_of_length_eq_zero h.1
    subst hl
    rcases A with _ | a
    · exact run_convert_bytes_nil w src e hs he 0 c dst hd
    · rw [run_convert_bytes_string w src dst e _ 0 c hs he hd, run_bytesToString w a 0 c [] (by simp [loadCells, loadCellsFrom, Sem.run_pure])]
      rfl
  · obtain ⟨b, o, rfl, _, hc⟩ := h.2.2 h0
    have hlen := h.1
    rw [run_convert_bytes_arg w src e hs he b o n c (l.map fun x => (x.toNat : Int)) (by simpa using hlen) (fun i hi => ?_) dst hd, hnum]
    obtain ⟨vs, hr, ha⟩ := hc i (l[i]'(by omega)) (List.getElem?_eq_getElem _)
    obtain rfl : vs = [.int .u8 (l[i]'(by omega)).toNat] := hr
    have := ha 0 _ rfl
    simp only [Rep.sz, Nat.mul_one, Nat.add_zero] at this
    rw [this]
    simp [List.getD, List.getElem?_eq_getElem (show i < l.length by omega)]

/-! ### From the form's own reading -/
theorem list_of {α : Type} {p : Nat → α → Prop} {len : Nat} (key : ∀ i, i < len → ∃ x : α, p i x) : ∃ l : List α, l.length = len ∧ ∀ i x, l[i]? = some x → p i x := by
  induction len with
  | zero => exact ⟨[], rfl, fun i x hx => by simp at hx⟩
  | succ k ih =>
    obtain ⟨l, hlen, hl⟩ := ih (fun i hi => key i (by omega))
    obtain ⟨x, hx⟩ := key k (by omega)
    refine ⟨l ++ [x], by simp [hlen], fun i y hy => ?_⟩
    by_cases hik : i < l.length
    · rw [List.getElem?_append_left hik] at hy
      exact hl i y hy
    · rw [List.getElem?_append_right (by omega)] at hy
      have : i - l.length = 0 := by
        have := (List.getElem?_eq_some_iff.1 hy).1
        simp at this
        omega
      rw [this] at hy
      have hik' : i = k := by omega
      subst hik'
      obtain rfl : x = y := by simpa using hy
      exact hx
section
variable {H : Type} {enc : TypeId × Value → H} {P : Program} {w : World} {base : Nat} {spare : Nat → Bool} {held : Bool}
/-- What reads at type t stands for some x of α. -/
def Dec (enc : TypeId × Value → H) (P : Program) (w : World) (base : Nat) (spare : Nat → Bool) (held : Bool) (t : TypeId) (α : Type) [Rep α] : Prop :=
  ∀ fuel cs d, DataW.trod enc P w base spare held fuel t cs = some d → ∃ x : α, Rep.rep w (Lt w.heap.size) x cs
theorem dec_string {t : TypeId} (ht : P.underlying t = some .string) : Dec enc P w base spare held t ByteArray := fun fuel cs d h => by
  obtain ⟨s, rfl, _, hs⟩ := DataW.trod_string ht h
  exact ⟨s, rfl, hs⟩
theorem dec_bool {t : TypeId} (ht : P.underlying t = some .bool) : Dec enc P w base spare held t Bool := fun fuel cs d h => by
  obtain ⟨s, rfl, _⟩ := DataW.trod_bool ht h
  exact ⟨s, rfl⟩
theorem dec_int {t : TypeId} (ht : P.underlying t = some (.int .i64)) : Dec enc P w base spare held t Int := fun fuel cs d h => by
  obtain ⟨n, rfl, _, hw⟩ := DataW.trod_int ht h
  refine ⟨n, rfl, ?_⟩
  simp [Lit.wf, IntKind.min, IntKind.max, IntKind.signed, IntKind.bits] at hw
  unfold InInt
  omega
theorem dec_u8 {t : TypeId} (ht : P.underlying t = some (.int .u8)) : Dec enc P w base spare held t UInt8 := fun fuel cs d h => by
  obtain ⟨n, rfl, _, hw⟩ := DataW.trod_int ht h
  have hb : 0 ≤ n ∧ n < 256 := by
    simp [Lit.wf, IntKind.min, IntKind.max, IntKind.signed, IntKind.bits] at hw
    omega
  refine ⟨UInt8.ofNat n.toNat, ?_⟩
  show _ = _
  rw [UInt8.toNat_ofNat']
  congr
  omega
theorem dec_slice {α : Type} [Rep α] {t e : TypeId} (ht : P.underlying t = some (.slice e)) (hC : P.cellsOf e = Rep.sz α) (hpos : 0 < Rep.sz α) (hd : Dec enc P w base spare held e α) :
    Dec enc P w base spare held t (List α) := fun fuel cs d h => by
  rcases Deep.open_slice ht h with ⟨rfl, _⟩ | ⟨a, len, cap, m, nn, D, Pl, rfl, _, hl, hm, hmm, _, hi⟩
  · exact ⟨[], none, 0, 0, rfl, Nat.le_refl _, Nat.zero_le _, Sl.nil⟩
  · have hlm : len ≤ m := by rw [hmm]; split <;> omega
    have key : ∀ i, i < len → ∃ x : α, ∃ vs, Rep.rep w (Lt w.heap.size) x vs ∧ ∀ j v, vs[j]? = some v → w.cell? ((a.add (i * P.cellsOf e)).add j) = some v := by
      intro i hil
      obtain ⟨cs', hc, ht'⟩ := hi i (by omega)
      obtain ⟨x, hx⟩ := hd _ _ _ ht'
      obtain ⟨_, hlen, hat⟩ := World.cells?_some hc
      refine ⟨x, cs', hx, fun j v hv => ?_⟩
      have hj : j < P.cellsOf e := by
        have := (List.getElem?_eq_some_iff.1 hv).1
        omega
      rw [hat j hj, hv]
    obtain ⟨l, hlen, hl'⟩ := list_of key
    refine ⟨l, some a, len, cap, rfl, hl, hm, hlen, by omega, fun hn => ?_⟩
    obtain ⟨b, off, spot⟩ := a
    obtain ⟨vs0, hr0, hc0⟩ := hl' 0 l[0] (List.getElem?_eq_getElem (by omega))
    have hl0 := Rep.len hr0
    have c00 := hc0 0 (vs0[0]'(by omega)) (List.getElem?_eq_getElem (by omega))
    simp only [Nat.zero_mul, Addr.add, if_true] at c00
    have hspot : spot = none := by simpa using World.cell?_spot c00
    subst hspot
    have hb : b < w.heap.size := by
      rcases Nat.lt_or_ge b w.heap.size with h1 | h1
      · exact h1
      · simp [World.cell?, Array.getElem?_eq_none h1] at c00
    refine ⟨b, off, rfl, hb, fun i x hx => ?_⟩
    obtain ⟨vs, hr, hc⟩ := hl' i x hx
    refine ⟨vs, hr, fun j v hv => ?_⟩
    have := hc j v hv
    rw [Deep.add_add, hC] at this
    rw [← this]
    congr 1
    unfold Addr.add
    split
    · simp [*]
    · simp [Nat.add_assoc]
end
end Go.Proofs.Sm

namespace Go.Proofs.Sm
open Go.RowKit

/-- The package-level variables as they stand. -/
structure Env (w : World) : Prop where
  size : 8 ≤ w.heap.size
  most : ∃ m, w.cell? ⟨0, 0, none⟩ = some (.int .i64 m)
  utf8 : Lib.Utf8Tabs 3 4 w
theorem Env.of_heap {w w' : World} (h : Env w) (hs : w.heap.size ≤ w'.heap.size) (hk : ∀ k, k < 8 → w'.heap[k]? = w.heap[k]?) : Env w' where
  size := Nat.le_trans h.size hs
  most := by
    obtain ⟨m, hm⟩ := h.most
    exact ⟨m, (World.cell?_of_block (w := w) (hk _ (by decide))).trans hm⟩
  utf8 := ⟨fun c hc => (World.cell?_of_block (w := w) (hk 3 (by decide))).trans (h.utf8.1 c hc), fun i hi => ⟨(World.cell?_of_block (w := w) (hk 4 (by decide))).trans (h.utf8.2 i hi).1, (World.cell?_of_block (w := w) (hk 4 (by decide))).trans (h.utf8.2 i hi).2⟩⟩
theorem Env.below {B : Nat} {w w' : World} (h : Env w) (hb : Below B w w') (hB : 8 ≤ B) : Env w' := h.of_heap hb.size fun k hk => hb.block k (Nat.lt_of_lt_of_le hk hB)
theorem Env.then_ {w w' : World} (h : Env w) (hb : Below w.heap.size w w') : Env w' := h.below hb h.size
theorem Env.drewN {w : World} (h : Env w) (n : Nat) : Env (w.drewN n) := h.of_heap (Nat.le_refl _) fun _ _ => rfl
theorem Env.alloc {w : World} (h : Env w) (o : Obj) : Env (w.alloc o) := h.then_ ((Below.refl _ _).alloc (Nat.le_refl _) o)
theorem Env.setCell {w : World} (h : Env w) {p : Addr} (hp : 8 ≤ p.block) (u : Value) : Env (w.setCell p u) := h.below ((Below.refl 8 _).setCell hp u) (Nat.le_refl _)

/-- strings.Split at a separator that is not empty: the pieces in a new row. -/
theorem split_any (s sep : ByteArray) (w : World) (hE : Env w) (hs : s.size < 4294967281) (h1 : 1 ≤ sep.size) :
    Calls Tryz.prog 117 #[.string s, .string sep] w fun e w' =>
      e = .returned (.slice (some ⟨w.heap.size, 0, none⟩) (Lib.countB s sep + 1) (Lib.countB s sep + 1)) ∧ w.alloc (.cells ((Lib.splitB sep 0 (Lib.countB s sep) s).map Value.string).toArray 9) = w' := by
  obtain ⟨m, hm⟩ := hE.most
  exact (Tryz.strings_Split s sep m w hs hm h1).mono fun _ _ h => ⟨h.1, h.2.symm⟩
end Go.Proofs.Sm

namespace Go.Proofs.Sm
open Go.RowKit Go.Maps Go.WideMaps

def raw (v : Value) : Option (DataW Value × List MemPlace) := some (.held v, [])
/-- Block b is a map of at most n entries; a key holds 'f key'. -/
def MapIs (P : Program) (k : TypeId) (w : World) (b n : Nat) (f : List UInt8 → Option Value) : Prop :=
  ∃ D : DataW Value, w.ownsMap P k raw b n D ∧ IsMap D ∧ ∀ key z, D.atKey (.string key) z = match f key with | some v => .held v | none => z

section
variable {P : Program} {k : TypeId} {w w' : World} {b n : Nat} {f : List UInt8 → Option Value}
theorem MapIs.made (w : World) : MapIs P k (w.alloc (.map #[] 0)) w.heap.size 0 (fun _ => none) :=
  ⟨.map [], World.ownsMap_made _ _ _ _, isMap_empty, fun key z => by simp [DataW.atKey]⟩
theorem MapIs.alloc (h : MapIs P k w b n f) (o : Obj) : MapIs P k (w.alloc o) b n f := by
  obtain ⟨D, h1, h2⟩ := h
  exact ⟨D, h1.alloc o, h2⟩
theorem MapIs.keep (h : MapIs P k w b n f) (hk : w'.heap[b]? = w.heap[b]?) : MapIs P k w' b n f := by
  obtain ⟨D, ⟨es, clock, hb, F, h1⟩, h2⟩ := h
  exact ⟨D, ⟨es, clock, hk.trans hb, F, h1⟩, h2⟩
theorem MapIs.lt (h : MapIs P k w b n f) : b < w.heap.size := by
  obtain ⟨D, h1, _⟩ := h
  exact h1.lt
theorem MapIs.call (h : MapIs P k w b n f) (hb : Below w.heap.size w w') : MapIs P k w' b n f := h.keep (hb.block b h.lt)
theorem MapIs.more (h : MapIs P k w b n f) {n' : Nat} (hn : n ≤ n') : MapIs P k w b n' f := by
  obtain ⟨D, h1, h2⟩ := h
  exact ⟨D, h1.mono hn, h2⟩
theorem MapIs.drewN (h : MapIs P k w b n f) (m : Nat) : MapIs P k (w.drewN m) b n f := h.keep rfl
theorem MapIs.setCell (h : MapIs P k w b n f) {p : Addr} (hp : b ≠ p.block) (u : Value) : MapIs P k (w.setCell p u) b n f := h.keep (Below.heap_setCell w p u b hp)

theorem MapIs.look {t e : TypeId} (h : MapIs P k w b n f) (hk : P.underlying k = some .string) (ht : P.underlying t = some (.map k e)) {z : Value} (hz : (zeroValue e).run P w = .ok z w)
    {s : ByteArray} (hs : s.size ≤ maxLen) : (Instr.lookup t (.map (some b)) (.string s) false).run P w = .ok ((f s.data.toList).getD z) w := by
  obtain ⟨D, h1, h2, h3⟩ := h
  obtain ⟨v, ps, hrun, hv⟩ := h1.lookup (string_keyed hk) ht hz (zd := .held z) (zp := []) rfl (kl := .string s.data.toList) (keyOf_string_mk hk hs)
  rw [hrun]
  simp only [raw, h3] at hv
  cases hf : f s.data.toList with
  | none => rw [hf] at hv; simp at hv; simp [hv.1]
  | some u => rw [hf] at hv; simp at hv; simp [hv.1]
theorem MapIs.store {t e : TypeId} (h : MapIs P k w b n f) (hk : P.underlying k = some .string) (ht : P.underlying t = some (.map k e)) (hn : n < maxLen) {s : ByteArray} (hs : s.size ≤ maxLen) (v : Value) :
    ∃ w', (Instr.mapUpdate t (.map (some b)) (.string s) v).run P w = .ok () w' ∧ MapIs P k w' b (n + 1) (fun key => if key = s.data.toList then some v else f key) ∧ w.grownBy w' (some b) := by
  obtain ⟨D, h1, h2, h3⟩ := h
  obtain ⟨w', hrun, hown, hg⟩ := h1.update (string_keyed hk) ht hn (key := .string s) (val := v) (kl := .string s.data.toList) (d := .held v) (ps := []) (keyOf_string_mk hk hs) rfl
  have hkl : WideAt.IsKeyLit (.string s.data.toList) := (string_keyed hk).key (keyOf_string_mk hk hs)
  refine ⟨w', hrun, ⟨_, hown, h2.put _ _, fun key z => ?_⟩, hg⟩
  by_cases he : key = s.data.toList
  · subst he
    rw [atKey_put_same h2 hkl]; simp
  · rw [atKey_put_other (by simpa using he)]
    simp only [if_neg he]
    exact h3 key z
/-- 'm[k] = v' in the walk. -/
theorem wpList_mapUpdate_is (w : World) {ops : Array Oper} {rest : List Oper} {o : Oper} {a : Act} {Q : Exit → Act → World → Prop}
    (hg : o.guard = none) (m x v : Operand) (t : TypeId) (hop : o.op = Op.mapUpdate t m x v) (hk : P.underlying k = some .string) {e : TypeId} (ht : P.underlying t = some (.map k e))
    (hm : a.eval m = .map (some b)) (hmap : MapIs P k w b n f) (hn : n < maxLen) (s : ByteArray) (hs : s.size ≤ maxLen) (val : Value) (hx : a.eval x = .string s) (hv : a.eval v = val)
    (hK : ∀ w', MapIs P k w' b (n + 1) (fun key => if key = s.data.toList then some val else f key) → w.grownBy w' (some b) → wpList P ops Q rest (a.put o.dst undef) w') :
    wpList P ops Q (o :: rest) a w := by
  refine wpList_plain hg fun K' hK' => ?_
  obtain ⟨w', hrun, r1, r2⟩ := hmap.store hk ht hn hs val
  unfold Oper.wp
  simp [execOp, hop, hm, hx, hv, hrun, Result.andThen]
  exact hK' _ _ (hK w' r1 r2)
end
end Go.Proofs.Sm

namespace Go.Proofs.Sm
open Go.RowKit

/-- a box of three cells of the call's own, behind whatever leaves it alone -/
def Box3 (w : World) (g : Nat) (a b c : Value) : Prop :=
  (w.cell? ⟨g, 0, none⟩ = some a ∧ w.cell? ⟨g, 1, none⟩ = some b ∧ w.cell? ⟨g, 2, none⟩ = some c) ∧ (w.frozen? ⟨g, 0, none⟩ = false ∧ w.frozen? ⟨g, 1, none⟩ = false ∧ w.frozen? ⟨g, 2, none⟩ = false) ∧ g < w.heap.size
theorem box3_new (w : World) (a b c : Value) (t : TypeId) : Box3 (w.alloc (.cells #[a, b, c] t)) w.heap.size a b c := by
  have h0 : (w.alloc (.cells #[a, b, c] t)).heap[w.heap.size]? = some (.cells #[a, b, c] t (0, 0)) := heap_alloc_new w _
  refine ⟨⟨?_, ?_, ?_⟩, ⟨?_, ?_, ?_⟩, by simp⟩ <;> (first | rw [World.cell?, h0] | rw [World.frozen?, h0]) <;> rfl
theorem Box3.call {w w1 : World} {g : Nat} {a b c : Value} (h : Box3 w g a b c) (hb : Below w.heap.size w w1) : Box3 w1 g a b c := by
  obtain ⟨⟨h1, h2, h3⟩, ⟨h4, h5, h6⟩, h7⟩ := h
  exact ⟨⟨(hb.cell h7).trans h1, (hb.cell h7).trans h2, (hb.cell h7).trans h3⟩, ⟨(hb.frozen h7).trans h4, (hb.frozen h7).trans h5, (hb.frozen h7).trans h6⟩, Nat.lt_of_lt_of_le h7 hb.size⟩

end Go.Proofs.Sm

namespace Go.Proofs.Sm
open Go.RowKit

theorem flatMap_at {α : Type} {cells : α → List Value} {sz : Nat} (hlen : ∀ x, (cells x).length = sz) : ∀ {l : List α} {i j : Nat} {x : α}, l[i]? = some x → j < sz → (l.flatMap cells)[i * sz + j]? = (cells x)[j]?
  | [], i, j, x, hx, _ => by simp at hx
  | a :: l, 0, j, x, hx, hj => by
    obtain rfl : a = x := by simpa using hx
    rw [List.flatMap_cons, Nat.zero_mul, Nat.zero_add, List.getElem?_append_left (by rw [hlen]; exact hj)]
  | a :: l, i + 1, j, x, hx, hj => by
    have hx' : l[i]? = some x := by simpa using hx
    rw [List.flatMap_cons, List.getElem?_append_right (by rw [hlen, Nat.succ_mul]; omega), hlen, ← flatMap_at hlen hx' hj]
    congr 1
    rw [Nat.succ_mul]
    omega
theorem ownsRow_call {w w' : World} {base : Nat} {e : TypeId} {size : Nat} {v : Value} {n : Nat} {xs : List Value} (h : w.ownsRow base e size v n xs) (hb : Below w.heap.size w w') : w'.ownsRow base e size v n xs :=
  h.kept (row := none) ⟨hb.os, hb.tape, hb.output, hb.size, fun i hi _ => hb.block i hi⟩ (by
    cases v.ownBlock with
    | none => exact .inl rfl
    | some k => exact .inr (by simp))
theorem Sl.of_own {α : Type} [Rep α] {w : World} {base : Nat} {e : TypeId} {v : Value} {l : List α} {cells : α → List Value} (hlen : ∀ x, (cells x).length = Rep.sz α)
    (hrep : ∀ x ∈ l, Rep.rep w (Lt w.heap.size) x (cells x)) (h : w.ownsRow base e (Rep.sz α) v l.length (l.flatMap cells)) :
    ∃ A c, v = .slice A l.length c ∧ l.length ≤ c ∧ c ≤ maxLen ∧ Sl w (Lt w.heap.size) A l.length l := by
  have hcells := fun g hg => h.cells (g := g) hg
  have hlt := h.lt
  obtain ⟨_, h2⟩ := h
  rcases h2 with ⟨rfl, h0⟩ | ⟨g, cap, cur, rfl, hb, hh, hnc, hcm, _, _⟩
  · rw [h0]
    have hl : l = [] := List.eq_nil_of_length_eq_zero h0
    subst hl
    exact ⟨none, 0, rfl, Nat.le_refl _, Nat.zero_le _, Sl.nil⟩
  · refine ⟨some ⟨g, 0, none⟩, cap, rfl, hnc, hcm, rfl, Nat.le_trans hnc hcm, fun hn => ⟨g, 0, rfl, (hlt g rfl).2, fun i x hx => ⟨cells x, hrep x (List.mem_of_getElem? hx), fun j u hu => ?_⟩⟩⟩
    have hj : j < Rep.sz α := by
      have := (List.getElem?_eq_some_iff.1 hu).1
      rw [hlen] at this
      exact this
    have h3 := hcells g rfl (i * Rep.sz α + j) u (by rw [flatMap_at hlen hx hj]; exact hu)
    have e : (⟨g, 0, none⟩ : Addr).add (i * Rep.sz α + j) = ⟨g, 0 + i * Rep.sz α + j, none⟩ := by
      unfold Addr.add
      split
      · rename_i h4
        have h5 : 0 + i * Rep.sz α + j = 0 := by omega
        rw [h5]
      · simp
    rw [e] at h3
    exact h3
end Go.Proofs.Sm

namespace Go.Proofs.Sm
open Go.RowKit

theorem addr_add (b o j : Nat) : (⟨b, o, none⟩ : Addr).add j = ⟨b, o + j, none⟩ := by
  unfold Addr.add
  split
  · simp [*]
  · simp
section
variable {P : Program} {w : World}
theorem run_append_nilF (base : Nat) (t ty e : TypeId) (i : TypeInfo) (size c : Nat) (ht : P.underlying t = some (.slice e)) (hi : P.info? e = some i)
    (v : Value) (n : Nat) (xs : List Value) (hown : w.ownsRowF base e size v n xs) : (Builtin.append_ #[t, t] ty #[v, .slice none 0 c]).run P w = .ok v w := by
  rcases hown.2 with ⟨rfl, rfl⟩ | ⟨g, cap, cur, fz, rfl, _, _, _, hnc, _⟩
  · simp [Builtin.append_, run_underlying ht, sizeOf, typeInfo, hi, Builtin.lenOf, Builtin.firstCells]
  · simp [Builtin.append_, run_underlying ht, sizeOf, typeInfo, hi, Builtin.lenOf, Builtin.firstCells, hnc, storeCells]
theorem run_append_nilO (base : Nat) (t ty e : TypeId) (i : TypeInfo) (size c : Nat) (ht : P.underlying t = some (.slice e)) (hi : P.info? e = some i)
    (v : Value) (n : Nat) (xs : List Value) (hown : w.ownsRow base e size v n xs) : (Builtin.append_ #[t, t] ty #[v, .slice none 0 c]).run P w = .ok v w :=
  run_append_nilF base t ty e i size c ht hi v n xs (World.ownsRowF_of hown)
variable {ops : Array Oper} {rest : List Oper} {o : Oper} {a : Act} {Q : Exit → Act → World → Prop}
theorem wpList_append_srcF (hgd : o.guard = none) (s x : Operand) (t : TypeId)
    (ho : o.op = .call { callee := .builtin .append, args := #[s, x], argTypes := #[t, t] })
    (base : Nat) (e : TypeId) (i : TypeInfo) (z : Value) (size bytes : Nat) (ht : P.underlying t = some (.slice e)) (hi : P.info? e = some i) (hz : i.zero = some z)
    (hsize : i.size = size) (hby : i.bytes = bytes) (hzs : z.cells.size = size) (hsz : 0 < size)
    (v : Value) (n : Nat) (xs : List Value) (hs : a.eval s = v) (hown : w.ownsRowF base e size v n xs)
    (A : Option Addr) (m c : Nat) (news : List Value) (hx : a.eval x = .slice A m c) (hl : news.length = m * size) (hnews : 0 < m → ∃ ad, A = some ad ∧ ∀ j u, news[j]? = some u → w.cell? (ad.add j) = some u)
    (h1 : ∀ u ∈ news, u.oneCell' = true) (h63 : n + m ≤ maxLen) (hbytes : (n + m) * bytes ≤ 140737488355328) (hbase : base ≤ w.heap.size)
    (h : ∀ v' w', w'.ownsRowF base e size v' (n + m) (xs ++ news) → w.grownBy w' v.ownBlock → wpList P ops Q rest (a.put o.dst v') w') : wpList P ops Q (o :: rest) a w := by
  rcases A with _ | ad
  · obtain rfl : m = 0 := by
      rcases Nat.eq_zero_or_pos m with h0 | h0
      · exact h0
      · obtain ⟨_, h2, _⟩ := hnews h0
        cases h2
    obtain rfl : news = [] := List.eq_nil_of_length_eq_zero (by simpa using hl)
    refine wpList_plain hgd fun K hK => ?_
    have hrun := run_append_nilF (P := P) (w := w) base t o.type e i size c ht hi v n xs hown
    unfold Oper.wp
    simp [execOp, ho, resolve, invoke, builtin, hs, hx, hrun, Result.andThen]
    exact hK _ _ (h v w (by simpa using hown) (World.grownBy.refl w _))
  · refine wpList_append_ownF w hgd s x t ho base e i z size bytes ht hi hz hsize hby hzs hsz v n xs hs hown ad m c news hx hl ?_ h1 h63 hbytes hbase (fun v' w' h2 h3 _ => h v' w' h2 h3)
    intro j u hu
    have hm : 0 < m := by
      rcases Nat.eq_zero_or_pos m with h0 | h0
      · subst h0
        obtain rfl : news = [] := List.eq_nil_of_length_eq_zero (by simpa using hl)
        simp at hu
      · exact h0
    obtain ⟨_, h2, h3⟩ := hnews hm
    cases h2
    exact h3 j u hu
theorem wpList_append_src (hgd : o.guard = none) (s x : Operand) (t : TypeId)
    (ho : o.op = .call { callee := .builtin .append, args := #[s, x], argTypes := #[t, t] })
    (base : Nat) (e : TypeId) (i : TypeInfo) (z : Value) (size bytes : Nat) (ht : P.underlying t = some (.slice e)) (hi : P.info? e = some i) (hz : i.zero = some z)
    (hsize : i.size = size) (hby : i.bytes = bytes) (hzs : z.cells.size = size) (hsz : 0 < size)
    (v : Value) (n : Nat) (xs : List Value) (hs : a.eval s = v) (hown : w.ownsRow base e size v n xs)
    (A : Option Addr) (m c : Nat) (news : List Value) (hx : a.eval x = .slice A m c) (hl : news.length = m * size) (hnews : 0 < m → ∃ ad, A = some ad ∧ ∀ j u, news[j]? = some u → w.cell? (ad.add j) = some u)
    (h1 : ∀ u ∈ news, u.oneCell' = true) (h63 : n + m ≤ maxLen) (hbytes : (n + m) * bytes ≤ 140737488355328) (hbase : base ≤ w.heap.size)
    (h : ∀ v' w', w'.ownsRow base e size v' (n + m) (xs ++ news) → w.grownBy w' v.ownBlock → wpList P ops Q rest (a.put o.dst v') w') : wpList P ops Q (o :: rest) a w := by
  rcases A with _ | ad
  · obtain rfl : m = 0 := by
      rcases Nat.eq_zero_or_pos m with h0 | h0
      · exact h0
      · obtain ⟨_, h2, _⟩ := hnews h0
        cases h2
    obtain rfl : news = [] := List.eq_nil_of_length_eq_zero (by simpa using hl)
    refine wpList_plain hgd fun K hK => ?_
    have hrun := run_append_nilO (P := P) (w := w) base t o.type e i size c ht hi v n xs hown
    unfold Oper.wp
    simp [execOp, ho, resolve, invoke, builtin, hs, hx, hrun, Result.andThen]
    exact hK _ _ (h v w (by simpa using hown) (World.grownBy.refl w _))
  · refine wpList_append_own w hgd s x t ho base e i z size bytes ht hi hz hsize hby hzs hsz v n xs hs hown ad m c news hx hl ?_ h1 h63 hbytes hbase (fun v' w' h2 h3 _ => h v' w' h2 h3)
    intro j u hu
    have hm : 0 < m := by
      rcases Nat.eq_zero_or_pos m with h0 | h0
      · subst h0
        obtain rfl : news = [] := List.eq_nil_of_length_eq_zero (by simpa using hl)
        simp at hu
      · exact h0
    obtain ⟨_, h2, h3⟩ := hnews hm
    cases h2
    exact h3 j u hu
end
/-- the cells of a slice of bytes -/
theorem sl_byteCells {w : World} {S : Nat → Prop} {A : Option Addr} {n : Nat} {p : List UInt8} (h : Sl w S A n p) (hn : 0 < n) :
    ∃ ad, A = some ad ∧ ∀ j u, (Lib.byteCells p)[j]? = some u → w.cell? (ad.add j) = some u := by
  obtain ⟨q, o, rfl, _, hc⟩ := h.2.2 hn
  refine ⟨_, rfl, fun j u hu => ?_⟩
  simp only [Lib.byteCells, List.getElem?_map, Option.map_eq_some_iff] at hu
  obtain ⟨x, hx, rfl⟩ := hu
  obtain ⟨vs, rfl, ha⟩ := hc j x hx
  have h0 := ha 0 _ rfl
  simp only [Rep.sz, Nat.mul_one, Nat.add_zero] at h0
  rw [addr_add]; exact h0
end Go.Proofs.Sm

namespace Go.Proofs.Sm
open Go.RowKit

def Kind (ty : TypeId) (w : World) (k : Nat) : Prop := ∃ cs fz, w.heap[k]? = some (.cells cs ty fz)
theorem Kind.lt {ty : TypeId} {w : World} {k : Nat} (h : Kind ty w k) : k < w.heap.size := by
  obtain ⟨cs, fz, h⟩ := h
  exact (Array.getElem?_eq_some_iff.1 h).1
theorem Kind.of_keep {ty : TypeId} {w w' : World} (hk : ∀ k, Kind ty w k → w'.heap[k]? = w.heap[k]?) : ∀ k, Kind ty w k → Kind ty w' k := by
  intro k h
  obtain ⟨cs, fz, h1⟩ := h
  exact ⟨cs, fz, (hk k ⟨cs, fz, h1⟩).trans h1⟩
/-- A row of e's of the call's own that reads as a list; its elements lead to blocks of type ty. -/
def RowOwn {α : Type} [Rep α] (w : World) (B : Nat) (e ty : TypeId) (v : Value) (l : List α) : Prop :=
  ∃ rows : List (List Value), rows.length = l.length ∧ w.ownsRow B e (Rep.sz α) v l.length rows.flatten ∧ ∀ (i : Nat) (x : α) (r : List Value), l[i]? = some x → rows[i]? = some r → Rep.rep w (Kind ty w) x r
section
variable {α : Type} [Rep α] {w w' : World} {B : Nat} {e ty : TypeId} {v : Value} {l : List α}
theorem RowOwn.nil : RowOwn w B e ty (.slice none 0 0) ([] : List α) := ⟨[], rfl, World.ownsRow_nil _ _ _ _, fun i x r h => by simp at h⟩
theorem ownsRow_keep {size n : Nat} {xs : List Value} (h : w.ownsRow B e size v n xs) (h2 : ∀ g, v.ownBlock = some g → w'.heap[g]? = w.heap[g]?) : w'.ownsRow B e size v n xs := by
  obtain ⟨h1, h3⟩ := h
  refine ⟨h1, ?_⟩
  rcases h3 with h3 | ⟨g, cap, cur, rfl, hb, hh, h4⟩
  · exact .inl h3
  · exact .inr ⟨g, cap, cur, rfl, hb, (h2 g rfl).trans hh, h4⟩
theorem RowOwn.keep (h : RowOwn w B e ty v l) (h1 : ∀ k, Kind ty w k → w'.heap[k]? = w.heap[k]?) (h2 : ∀ g, v.ownBlock = some g → w'.heap[g]? = w.heap[g]?) : RowOwn w' B e ty v l := by
  obtain ⟨rows, hr, hown, hrep⟩ := h
  exact ⟨rows, hr, ownsRow_keep hown h2, fun i x r hx hri => Rep.more (Kind.of_keep h1) (Rep.keep h1 (hrep i x r hx hri))⟩
theorem ownsRow_kind {size n : Nat} {xs : List Value} (h : w.ownsRow B e size v n xs) : ∀ g, v.ownBlock = some g → B ≤ g ∧ Kind e w g := by
  intro g hg
  rcases h.2 with ⟨rfl, _⟩ | ⟨g', cap, cur, rfl, hb, hh, _⟩
  · simp [Value.ownBlock] at hg
  · obtain rfl : g' = g := by simpa [Value.ownBlock] using hg
    exact ⟨hb, cur, _, hh⟩
theorem RowOwn.kind (h : RowOwn w B e ty v l) : ∀ g, v.ownBlock = some g → B ≤ g ∧ Kind e w g := by
  obtain ⟨rows, _, hown, _⟩ := h
  exact ownsRow_kind hown
theorem RowOwn.call (h : RowOwn w B e ty v l) (hb : Below w.heap.size w w') : RowOwn w' B e ty v l :=
  h.keep (fun k hk => hb.block k hk.lt) (fun g hg => hb.block g (h.kind g hg).2.lt)
theorem RowOwn.alloc (h : RowOwn w B e ty v l) (o : Obj) : RowOwn (w.alloc o) B e ty v l := h.call (fr_alloc (fr_refl w) o)
theorem kind_ne {t1 t2 : TypeId} {k1 k2 : Nat} (h1 : Kind t1 w k1) (h2 : Kind t2 w k2) (h : t1 ≠ t2) : k1 ≠ k2 := by
  rintro rfl
  obtain ⟨c1, f1, e1⟩ := h1
  obtain ⟨c2, f2, e2⟩ := h2
  rw [e1] at e2
  cases e2
  exact h rfl
theorem RowOwn.set {t : TypeId} {p : Addr} (h : RowOwn w B e ty v l) (hp : Kind t w p.block) (he : e ≠ t) (hty : ty ≠ t) (u : Value) : RowOwn (w.setCell p u) B e ty v l :=
  h.keep (fun k hk => heap_setCell_other w p k u (kind_ne hk hp hty)) (fun g hg => heap_setCell_other w p g u (kind_ne (h.kind g hg).2 hp he))
/-- another row grows -/
theorem RowOwn.other {t : TypeId} {row : Option Nat} (h : RowOwn w B e ty v l) (hg : w.grownBy w' row) (hr : ∀ g, row = some g → Kind t w g) (he : e ≠ t) (hty : ty ≠ t) : RowOwn w' B e ty v l := by
  refine h.keep (fun k hk => hg.block k hk.lt fun e2 => ?_) (fun g hg2 => hg.block g (h.kind g hg2).2.lt fun e2 => ?_)
  · exact kind_ne hk (hr k e2.symm) hty rfl
  · exact kind_ne (h.kind g hg2).2 (hr g e2.symm) he rfl
theorem RowOwn.append {rows : List (List Value)} {r : List Value} {x : α} {v' : Value} (hr : rows.length = l.length) (hown : w.ownsRow B e (Rep.sz α) v l.length rows.flatten)
    (hrep : ∀ (i : Nat) (x : α) (r : List Value), l[i]? = some x → rows[i]? = some r → Rep.rep w (Kind ty w) x r) (hx : Rep.rep w (Kind ty w) x r) (hne : ty ≠ e)
    (hg : w.grownBy w' v.ownBlock) (hown' : w'.ownsRow B e (Rep.sz α) v' (l.length + 1) (rows.flatten ++ r)) : RowOwn w' B e ty v' (l ++ [x]) := by
  have h1 : ∀ k, Kind ty w k → w'.heap[k]? = w.heap[k]? := fun k hk => hg.block k hk.lt fun e2 => kind_ne hk (ownsRow_kind hown k e2.symm).2 hne rfl
  refine ⟨rows ++ [r], by simp [hr], ?_, ?_⟩
  · rw [List.length_append, List.length_singleton, List.flatten_append]
    simpa using hown'
  · intro i y s hy hs
    refine Rep.more (Kind.of_keep h1) (Rep.keep h1 ?_)
    by_cases hi : i < l.length
    · rw [List.getElem?_append_left hi] at hy
      rw [List.getElem?_append_left (by omega)] at hs
      exact hrep i y s hy hs
    · have hi2 := (List.getElem?_eq_some_iff.1 hy).1
      rw [List.length_append, List.length_singleton] at hi2
      obtain rfl : i = l.length := by omega
      rw [List.getElem?_append_right (Nat.le_refl _)] at hy
      rw [List.getElem?_append_right (by omega), hr] at hs
      simp at hy hs
      subst hy; subst hs
      exact hx
theorem flatten_at {sz : Nat} : ∀ {rows : List (List Value)} {i j : Nat} {r : List Value}, (∀ r ∈ rows, r.length = sz) → rows[i]? = some r → j < sz → rows.flatten[i * sz + j]? = r[j]?
  | [], i, j, r, _, h, _ => by simp at h
  | a :: rows, 0, j, r, hl, h, hj => by
    obtain rfl : a = r := by simpa using h
    rw [List.flatten_cons, Nat.zero_mul, Nat.zero_add, List.getElem?_append_left (by rw [hl a (by simp)]; exact hj)]
  | a :: rows, i + 1, j, r, hl, h, hj => by
    have h' : rows[i]? = some r := by simpa using h
    have ha := hl a (by simp)
    rw [List.flatten_cons, List.getElem?_append_right (by rw [ha, Nat.succ_mul]; omega), ha, ← flatten_at (fun r hr => hl r (by simp [hr])) h' hj]
    congr 1
    rw [Nat.succ_mul]
    omega
theorem RowOwn.sl (h : RowOwn w B e ty v l) : ∃ A c, v = .slice A l.length c ∧ l.length ≤ c ∧ c ≤ maxLen ∧ Sl w (Lt w.heap.size) A l.length l := by
  obtain ⟨rows, hr, hown, hrep⟩ := h
  have hcells := fun g hg => hown.cells (g := g) hg
  have hlt := hown.lt
  have hlens : ∀ r ∈ rows, r.length = Rep.sz α := by
    intro r hr2
    obtain ⟨i, hi⟩ := List.getElem?_of_mem hr2
    have hi2 := (List.getElem?_eq_some_iff.1 hi).1
    exact Rep.len (hrep i l[i] r (List.getElem?_eq_getElem (by omega)) hi)
  rcases hown.2 with ⟨rfl, h0⟩ | ⟨g, cap, cur, rfl, hb, hh, hnc, hcm, _, _⟩
  · rw [h0]
    have hl : l = [] := List.eq_nil_of_length_eq_zero h0
    subst hl
    exact ⟨none, 0, rfl, Nat.le_refl _, Nat.zero_le _, Sl.nil⟩
  · refine ⟨some ⟨g, 0, none⟩, cap, rfl, hnc, hcm, rfl, Nat.le_trans hnc hcm, fun hn => ⟨g, 0, rfl, (hlt g rfl).2, fun i x hx => ?_⟩⟩
    have hi : i < l.length := (List.getElem?_eq_some_iff.1 hx).1
    have hri : rows[i]? = some (rows[i]'(by omega)) := List.getElem?_eq_getElem (by omega)
    refine ⟨rows[i]'(by omega), Rep.more (fun k hk => hk.lt) (hrep i x _ hx hri), fun j u hu => ?_⟩
    have hj : j < Rep.sz α := by
      have := (List.getElem?_eq_some_iff.1 hu).1
      rw [hlens _ (List.mem_of_getElem? hri)] at this
      exact this
    have h3 := hcells g rfl (i * Rep.sz α + j) u (by rw [flatten_at hlens hri hj]; exact hu)
    rw [addr_add] at h3
    rw [← h3]
    congr 2
    omega
theorem RowOwn.form (h : RowOwn w B e ty v l) : ∃ A c, v = .slice A l.length c := by
  obtain ⟨A, c, h1, _⟩ := h.sl
  exact ⟨A, c, h1⟩
theorem RowOwn.le (h : RowOwn w B e ty v l) : l.length ≤ maxLen := by
  obtain ⟨A, c, _, h1, h2, _⟩ := h.sl
  omega
end
end Go.Proofs.Sm

namespace Go.Proofs.Sm
open Go.RowKit

/-- A row of e's of the call's own that reads as a list; its elements lead to blocks in K, which are there. -/
def RowK {α : Type} [Rep α] (w : World) (B : Nat) (e : TypeId) (K : Nat → Prop) (v : Value) (l : List α) : Prop :=
  (∀ k, K k → k < w.heap.size) ∧ ∃ rows : List (List Value), rows.length = l.length ∧ w.ownsRow B e (Rep.sz α) v l.length rows.flatten ∧ ∀ (i : Nat) (x : α) (r : List Value), l[i]? = some x → rows[i]? = some r → Rep.rep w K x r
section
variable {α : Type} [Rep α] {w w' : World} {B : Nat} {e : TypeId} {K K' : Nat → Prop} {v : Value} {l : List α}
theorem RowK.nil : RowK w B e (fun _ => False) (.slice none 0 0) ([] : List α) := ⟨fun _ h => h.elim, [], rfl, World.ownsRow_nil _ _ _ _, fun i x r h => by simp at h⟩
theorem RowK.keep (h : RowK w B e K v l) (hs : w.heap.size ≤ w'.heap.size) (h1 : ∀ k, K k → w'.heap[k]? = w.heap[k]?) (h2 : ∀ g, v.ownBlock = some g → w'.heap[g]? = w.heap[g]?) : RowK w' B e K v l := by
  obtain ⟨hk, rows, hr, hown, hrep⟩ := h
  exact ⟨fun k hh => Nat.lt_of_lt_of_le (hk k hh) hs, rows, hr, ownsRow_keep hown h2, fun i x r hx hri => Rep.keep h1 (hrep i x r hx hri)⟩
theorem RowK.more (h : RowK w B e K v l) (hm : ∀ k, K k → K' k) (hk' : ∀ k, K' k → k < w.heap.size) : RowK w B e K' v l := by
  obtain ⟨_, rows, hr, hown, hrep⟩ := h
  exact ⟨hk', rows, hr, hown, fun i x r hx hri => Rep.more hm (hrep i x r hx hri)⟩
theorem RowK.kind (h : RowK w B e K v l) : ∀ g, v.ownBlock = some g → B ≤ g ∧ Kind e w g := by
  obtain ⟨_, rows, _, hown, _⟩ := h
  exact ownsRow_kind hown
theorem RowK.call (h : RowK w B e K v l) (hb : Below w.heap.size w w') : RowK w' B e K v l :=
  h.keep hb.size (fun k hk => hb.block k (h.1 k hk)) (fun g hg => hb.block g (h.kind g hg).2.lt)
/-- some block alone is another one now -/
theorem RowK.far {b : Nat} (h : RowK w B e K v l) (hg : w.grownBy w' (some b)) (h1 : ¬ K b) (h2 : v.ownBlock ≠ some b) : RowK w' B e K v l :=
  h.keep hg.size (fun k hk => hg.block k (h.1 k hk) fun e => h1 (by cases e; exact hk)) (fun g hh => hg.block g (h.kind g hh).2.lt fun e => h2 (by rw [hh, e]))
/-- another row grows -/
theorem RowK.other {row : Option Nat} (h : RowK w B e K v l) (hg : w.grownBy w' row) (h1 : ∀ g, row = some g → ¬ K g ∧ v.ownBlock ≠ some g) : RowK w' B e K v l :=
  h.keep hg.size (fun k hk => hg.block k (h.1 k hk) fun e => (h1 k e.symm).1 hk) (fun g hh => hg.block g (h.kind g hh).2.lt fun e => (h1 g e.symm).2 hh)
theorem RowK.append {rows : List (List Value)} {r : List Value} {x : α} {v' : Value} (hk : ∀ k, K k → k < w.heap.size) (hr : rows.length = l.length)
    (hrep : ∀ (i : Nat) (x : α) (r : List Value), l[i]? = some x → rows[i]? = some r → Rep.rep w K x r) (hx : Rep.rep w K x r) (hne : ∀ g, v.ownBlock = some g → ¬ K g)
    (hg : w.grownBy w' v.ownBlock) (hown' : w'.ownsRow B e (Rep.sz α) v' (l.length + 1) (rows.flatten ++ r)) : RowK w' B e K v' (l ++ [x]) := by
  have h1 : ∀ k, K k → w'.heap[k]? = w.heap[k]? := fun k hh => hg.block k (hk k hh) fun e2 => hne k e2.symm hh
  refine ⟨fun k hh => Nat.lt_of_lt_of_le (hk k hh) hg.size, rows ++ [r], by simp [hr], ?_, ?_⟩
  · rw [List.length_append, List.length_singleton, List.flatten_append]
    simpa using hown'
  · intro i y s hy hs
    refine Rep.keep h1 ?_
    by_cases hi : i < l.length
    · rw [List.getElem?_append_left hi] at hy
      rw [List.getElem?_append_left (by omega)] at hs
      exact hrep i y s hy hs
    · have hi2 := (List.getElem?_eq_some_iff.1 hy).1
      rw [List.length_append, List.length_singleton] at hi2
      obtain rfl : i = l.length := by omega
      rw [List.getElem?_append_right (Nat.le_refl _)] at hy
      rw [List.getElem?_append_right (by omega), hr] at hs
      simp at hy hs
      subst hy; subst hs
      exact hx
theorem RowK.sl (h : RowK w B e K v l) : ∃ A c, v = .slice A l.length c ∧ l.length ≤ c ∧ c ≤ maxLen ∧ Sl w (Lt w.heap.size) A l.length l := by
  obtain ⟨hk, rows, hr, hown, hrep⟩ := h
  have hcells := fun g hg => hown.cells (g := g) hg
  have hlt := hown.lt
  have hlens : ∀ r ∈ rows, r.length = Rep.sz α := by
    intro r hr2
    obtain ⟨i, hi⟩ := List.getElem?_of_mem hr2
    have hi2 := (List.getElem?_eq_some_iff.1 hi).1
    exact Rep.len (hrep i l[i] r (List.getElem?_eq_getElem (by omega)) hi)
  rcases hown.2 with ⟨rfl, h0⟩ | ⟨g, cap, cur, rfl, hb, hh, hnc, hcm, _, _⟩
  · rw [h0]
    have hl : l = [] := List.eq_nil_of_length_eq_zero h0
    subst hl
    exact ⟨none, 0, rfl, Nat.le_refl _, Nat.zero_le _, Sl.nil⟩
  · refine ⟨some ⟨g, 0, none⟩, cap, rfl, hnc, hcm, rfl, Nat.le_trans hnc hcm, fun hn => ⟨g, 0, rfl, (hlt g rfl).2, fun i x hx => ?_⟩⟩
    have hi : i < l.length := (List.getElem?_eq_some_iff.1 hx).1
    have hri : rows[i]? = some (rows[i]'(by omega)) := List.getElem?_eq_getElem (by omega)
    refine ⟨rows[i]'(by omega), Rep.more (fun k hh => hk k hh) (hrep i x _ hx hri), fun j u hu => ?_⟩
    have hj : j < Rep.sz α := by
      have := (List.getElem?_eq_some_iff.1 hu).1
      rw [hlens _ (List.mem_of_getElem? hri)] at this
      exact this
    have h3 := hcells g rfl (i * Rep.sz α + j) u (by rw [flatten_at hlens hri hj]; exact hu)
    rw [addr_add] at h3
    rw [← h3]
    congr 2
    omega
theorem RowK.form (h : RowK w B e K v l) : ∃ A c, v = .slice A l.length c := by
  obtain ⟨A, c, h1, _⟩ := h.sl
  exact ⟨A, c, h1⟩
end
end Go.Proofs.Sm

namespace Go.Proofs.Sm
open Go.RowKit

instance : Rep Nat where
  sz := 1
  rep _ _ x vs := vs = [.int .i64 (x : Int)] ∧ x ≤ maxLen
  len h := by rw [h.1]; rfl
  keep _ h := h
  more _ h := h
/-- block g holds these values -/
def Arr (w : World) (g : Nat) (ty : TypeId) (vs : List Value) : Prop := w.heap[g]? = some (.cells vs.toArray ty (0, 0))
section
variable {w w' : World} {g : Nat} {ty : TypeId} {vs : List Value}
theorem Arr.lt (h : Arr w g ty vs) : g < w.heap.size := (Array.getElem?_eq_some_iff.1 h).1
theorem Arr.keep (h : Arr w g ty vs) (hk : w'.heap[g]? = w.heap[g]?) : Arr w' g ty vs := hk.trans h
theorem Arr.call (h : Arr w g ty vs) (hb : Below w.heap.size w w') : Arr w' g ty vs := h.keep (hb.block g h.lt)
theorem Arr.grown {row : Option Nat} (h : Arr w g ty vs) (hg : w.grownBy w' row) (hne : row ≠ some g) : Arr w' g ty vs := h.keep (hg.block g h.lt fun e => hne e.symm)
theorem Arr.other (h : Arr w g ty vs) {p : Addr} (hp : g ≠ p.block) (u : Value) : Arr (w.setCell p u) g ty vs := h.keep (heap_setCell_other w p g u hp)
theorem Arr.cell (h : Arr w g ty vs) {i : Nat} {v : Value} (hi : vs[i]? = some v) : w.cell? ⟨g, i, none⟩ = some v := by
  rw [World.cell?, h]
  simpa using hi
theorem Arr.frozen (h : Arr w g ty vs) (i : Nat) : w.frozen? ⟨g, i, none⟩ = false := frozen_of_row w g i _ _ h
theorem Arr.set (h : Arr w g ty vs) (i : Nat) (v : Value) : Arr (w.setCell ⟨g, i, none⟩ v) g ty (vs.set i v) := by
  have := heap_setCell_same w g i _ _ v h
  rw [Arr, this]
  simp
theorem Arr.of_full {base n : Nat} {xs : List Value} (h : w.ownsRow base ty 1 (.slice (some ⟨g, 0, none⟩) n n) n xs) : Arr w g ty xs := by
  obtain ⟨hl, h⟩ := h
  rcases h with ⟨h, _⟩ | ⟨g', cap, cur, h, _, hh, _, _, hs, ht⟩
  · cases h
  · cases h
    rw [Arr, hh]
    rw [List.take_of_length_le (by simp [hs])] at ht
    rw [← ht]
theorem Arr.sl {α : Type} [Rep α] {l : List α} (h : Arr w g ty vs) (hsz : Rep.sz α = 1) (hl : vs.length = l.length) (hm : l.length ≤ maxLen) (hr : ∀ (i : Nat) (x : α) (v : Value), l[i]? = some x → vs[i]? = some v → Rep.rep w (Lt w.heap.size) x [v]) :
    Sl w (Lt w.heap.size) (some ⟨g, 0, none⟩) l.length l := by
  refine ⟨rfl, hm, fun _ => ⟨g, 0, rfl, h.lt, fun i x hx => ?_⟩⟩
  have hi : i < vs.length := by rw [hl]; exact (List.getElem?_eq_some_iff.1 hx).1
  refine ⟨[vs[i]], hr i x _ hx (List.getElem?_eq_getElem hi), fun j v hv => ?_⟩
  obtain rfl : j = 0 := by
    have := (List.getElem?_eq_some_iff.1 hv).1
    simp at this; exact this
  cases hv
  rw [hsz, Nat.zero_add, Nat.mul_one, Nat.add_zero]
  exact h.cell (List.getElem?_eq_getElem hi)
end
/-- a block of rows of numbers of the call's own, each apart from all others; their blocks are in S -/
structure Grid (w : World) (B : Nat) (S : Nat → Prop) (g : Nat) (tS tI : TypeId) (rows : List (List Nat)) : Prop where
  low : g < B
  vals : ∃ vs : List Value, Arr w g tS vs ∧ vs.length = rows.length ∧ (∀ (i : Nat) v r, vs[i]? = some v → rows[i]? = some r → RowK w B tI (fun _ => False) v r ∧ ∀ b, v.ownBlock = some b → S b) ∧
    ∀ (i j : Nat) v v' b, i ≠ j → vs[i]? = some v → vs[j]? = some v' → v.ownBlock = some b → v'.ownBlock ≠ some b
section
variable {w w' : World} {B g : Nat} {S S' : Nat → Prop} {tS tI : TypeId} {rows : List (List Nat)}
theorem Grid.lt (h : Grid w B S g tS tI rows) : g < w.heap.size := by
  obtain ⟨vs, ha, _⟩ := h.vals
  exact ha.lt
theorem Grid.keep (h : Grid w B S g tS tI rows) (hs : w.heap.size ≤ w'.heap.size) (hg : w'.heap[g]? = w.heap[g]?) (hk : ∀ k, B ≤ k → S k → Kind tI w k → w'.heap[k]? = w.heap[k]?) : Grid w' B S g tS tI rows := by
  obtain ⟨vs, ha, hl, hr, hd⟩ := h.vals
  refine ⟨h.low, vs, ha.keep hg, hl, fun i v r hv hr' => ?_, hd⟩
  obtain ⟨h1, h2⟩ := hr i v r hv hr'
  exact ⟨h1.keep hs (fun _ hh => hh.elim) fun b hb => hk b (h1.kind b hb).1 (h2 b hb) (h1.kind b hb).2, h2⟩
theorem Grid.call (h : Grid w B S g tS tI rows) (hb : Below w.heap.size w w') : Grid w' B S g tS tI rows := h.keep hb.size (hb.block g h.lt) fun k _ _ hk => hb.block k hk.lt
theorem Grid.other (h : Grid w B S g tS tI rows) {p : Addr} (hp : g ≠ p.block) (hp2 : p.block < B ∨ ¬ S p.block) (u : Value) : Grid (w.setCell p u) B S g tS tI rows :=
  h.keep (by simp) (heap_setCell_other w p g u hp) fun k h1 h2 _ => heap_setCell_other w p k u (by rintro rfl; rcases hp2 with hp2 | hp2; omega; exact hp2 h2)
theorem Grid.grown {row : Option Nat} (h : Grid w B S g tS tI rows) (hg : w.grownBy w' row) (hr : ∀ b, row = some b → B ≤ b ∧ ¬ S b) : Grid w' B S g tS tI rows :=
  h.keep hg.size (hg.block g h.lt fun e => by have := (hr g e.symm).1; have := h.low; omega) fun k _ h2 hk => hg.block k hk.lt fun e => (hr k e.symm).2 h2
theorem Grid.more (h : Grid w B S g tS tI rows) (hs : ∀ k, S k → k < w.heap.size → S' k) : Grid w B S' g tS tI rows := by
  obtain ⟨vs, ha, hl, hr, hd⟩ := h.vals
  exact ⟨h.low, vs, ha, hl, fun i v r hv hr' => ⟨(hr i v r hv hr').1, fun b hb => hs b ((hr i v r hv hr').2 b hb) ((hr i v r hv hr').1.kind b hb).2.lt⟩, hd⟩
theorem Grid.made {n : Nat} (ha : Arr w g tS (List.replicate n (.slice none 0 0))) (hg : g < B) : Grid w B S g tS tI (List.replicate n []) := by
  refine ⟨hg, _, ha, by simp, fun i v r hv hr => ?_, fun i j v v' b _ hv _ hb => ?_⟩
  · rw [List.getElem?_replicate] at hv hr
    split at hv
    · rename_i hi
      rw [if_pos hi] at hr
      cases hv; cases hr
      exact ⟨RowK.nil, fun b hb => by cases hb⟩
    · cases hv
  · rw [List.getElem?_replicate] at hv
    split at hv
    · cases hv; cases hb
    · cases hv
theorem Grid.at (h : Grid w B S g tS tI rows) {i : Nat} {r : List Nat} (hr : rows[i]? = some r) : ∃ v, w.cell? ⟨g, i, none⟩ = some v ∧ RowK w B tI (fun _ => False) v r ∧ (∀ b, v.ownBlock = some b → S b) ∧
    ∀ (w1 : World) (v' : Value) (r' : List Nat), w.heap.size ≤ w1.heap.size → (∀ k, (k < w.heap.size ∧ v.ownBlock ≠ some k) → w1.heap[k]? = w.heap[k]?) → RowK w1 B tI (fun _ => False) v' r' → (∀ b, v'.ownBlock = some b → S b ∧ (v.ownBlock = some b ∨ w.heap.size ≤ b)) →
      Grid (w1.setCell ⟨g, i, none⟩ v') B S g tS tI (rows.set i r') := by
  obtain ⟨vs, ha, hl, hrs, hd⟩ := h.vals
  have hi : i < rows.length := (List.getElem?_eq_some_iff.1 hr).1
  obtain ⟨v, hv⟩ : ∃ v, vs[i]? = some v := at_lt (by omega)
  obtain ⟨h1, h2⟩ := hrs i v r hv hr
  refine ⟨v, ha.cell hv, h1, h2, fun w1 v' r' hs hk hr' hn => ?_⟩
  have hgb : ∀ {v0 : Value} {r0 : List Nat} {W : World}, RowK W B tI (fun _ => False) v0 r0 → v0.ownBlock ≠ some g := fun h0 e => by have := (h0.kind g e).1; have := h.low; omega
  have ha1 : Arr w1 g tS vs := ha.keep (hk g ⟨ha.lt, hgb h1⟩)
  refine ⟨h.low, _, ha1.set i v', by simp [hl], fun j u s hu hs' => ?_, fun j k u u' b hjk hu hu' hb => ?_⟩
  · rw [List.getElem?_set] at hu hs'
    by_cases hj : i = j
    · subst hj
      rw [if_pos rfl, if_pos (by omega)] at hu
      rw [if_pos rfl, if_pos hi] at hs'
      cases hu; cases hs'
      exact ⟨hr'.keep (by simp) (fun _ hh => hh.elim) fun b hb => heap_setCell_other w1 _ b v' fun e => hgb hr' (by rw [hb, e]), fun b hb => (hn b hb).1⟩
    · rw [if_neg hj] at hu hs'
      obtain ⟨g1, g2⟩ := hrs j u s hu hs'
      refine ⟨g1.keep (by simpa using hs) (fun _ hh => hh.elim) fun b hb => ?_, g2⟩
      refine (heap_setCell_other w1 _ b v' fun e => hgb g1 (by rw [hb, e])).trans (hk b ⟨(g1.kind b hb).2.lt, fun e => ?_⟩)
      exact hd i j v u b hj hv hu e hb
  · have own : ∀ {m : Nat} {x : Value} {b : Nat}, m ≠ i → vs[m]? = some x → x.ownBlock = some b → v'.ownBlock ≠ some b := fun {m x b} hm hx hxb e => by
      obtain ⟨s, hs⟩ := at_lt (l := rows) (k := m) (by have := (List.getElem?_eq_some_iff.1 hx).1; omega)
      rcases (hn b e).2 with h3 | h3
      · exact hd i m v x b (fun e => hm e.symm) hv hx h3 hxb
      · have := ((hrs m x s hx hs).1.kind b hxb).2.lt; omega
    rw [List.getElem?_set] at hu hu'
    by_cases hj : i = j
    · subst hj
      rw [if_pos rfl, if_pos (by omega)] at hu
      rw [if_neg hjk] at hu'
      cases hu
      exact fun e => own (fun e => hjk e.symm) hu' e hb
    · rw [if_neg hj] at hu
      by_cases hk' : i = k
      · subst hk'
        rw [if_pos rfl, if_pos (by omega)] at hu'
        cases hu'
        exact own (fun e => hj e.symm) hu hb
      · rw [if_neg hk'] at hu'
        exact hd j k u u' b hjk hu hu' hb
theorem RowK.slFrom {α : Type} [Rep α] {e : TypeId} {v : Value} {l : List α} (h : RowK w B e (fun _ => False) v l) : ∃ A c, v = .slice A l.length c ∧ l.length ≤ c ∧ c ≤ maxLen ∧ Sl w (fun k => B ≤ k ∧ k < w.heap.size) A l.length l := by
  have hkind := h.kind
  obtain ⟨hk, rows, hr, hown, hrep⟩ := id h
  obtain ⟨A, c, rfl, h1, h2, h3⟩ := h.sl
  refine ⟨A, c, rfl, h1, h2, h3.1, h3.2.1, fun hn => ?_⟩
  obtain ⟨b, o, rfl, hb, hc⟩ := h3.2.2 hn
  have hown' := hown.2
  rcases hown' with ⟨h4, _⟩ | ⟨g, cap, cur, h4, hbg, hh, _⟩
  · cases h4
  · cases h4
    refine ⟨_, 0, rfl, ⟨hbg, hb⟩, fun i x hx => ?_⟩
    obtain ⟨vs, _, hat⟩ := hc i x hx
    have hi : i < l.length := (List.getElem?_eq_some_iff.1 hx).1
    have hri : rows[i]? = some (rows[i]'(by omega)) := List.getElem?_eq_getElem (by omega)
    have hrp := hrep i x _ hx hri
    refine ⟨rows[i]'(by omega), Rep.more (fun _ hf => hf.elim) hrp, fun j u hu => ?_⟩
    have hlens : ∀ r ∈ rows, r.length = Rep.sz α := by
      intro r hr2
      obtain ⟨i, hi⟩ := List.getElem?_of_mem hr2
      have hi2 := (List.getElem?_eq_some_iff.1 hi).1
      exact Rep.len (hrep i l[i] r (List.getElem?_eq_getElem (by omega)) hi)
    have hj : j < Rep.sz α := by
      have := (List.getElem?_eq_some_iff.1 hu).1
      rw [hlens _ (List.mem_of_getElem? hri)] at this
      exact this
    have h5 := hown.cells (g := _) rfl (i * Rep.sz α + j) u (by rw [flatten_at hlens hri hj]; exact hu)
    rw [addr_add] at h5
    rw [← h5]
    congr 2
    omega
theorem RowK.rep {K : Nat → Prop} {v : Value} {r : List Nat} (h : RowK w B tI K v r) : Rep.rep w (Lt w.heap.size) r [v] := by
  obtain ⟨A, c, rfl, h1, h2, h3⟩ := h.sl
  exact ⟨A, _, c, rfl, h1, h2, h3⟩
theorem Grid.sl (h : Grid w B S g tS tI rows) (hm : rows.length ≤ maxLen) : Sl w (Lt w.heap.size) (some ⟨g, 0, none⟩) rows.length rows := by
  obtain ⟨vs, ha, hl, hr, _⟩ := h.vals
  exact ha.sl rfl hl hm fun i x v hx hv => (hr i v x hv hx).1.rep
end
end Go.Proofs.Sm

namespace Go.Proofs.Sm
open Go.RowKit

/-- from lo to hi -/
def withinB (n lo hi : Int) : Bool := decide (lo ≤ n) && decide (n ≤ hi)
theorem withinB_true {n lo hi : Int} (h : withinB n lo hi = true) : lo ≤ n ∧ n ≤ hi := by simpa [withinB] using h
theorem withinB_false {n lo hi : Int} (h : withinB n lo hi = false) : n < lo ∨ hi < n := by simp [withinB] at h; omega
/-- a byte of a part of a path -/
def partI (c : Int) : Bool := (97 ≤ c && c ≤ 122) || (65 ≤ c && c ≤ 90) || (48 ≤ c && c ≤ 57) || c == 46 || c == 95 || c == 45 || c == 43
def partB (c : UInt8) : Bool := partI (c.toNat : Int)
def isPartS (s : ByteArray) : Bool := s.data.toList.all partB && !(s.data.toList == []) && !(s.data.toList == [46]) && !(s.data.toList == [46, 46])
def hexI (c : Int) : Bool := (48 ≤ c && c ≤ 57) || (97 ≤ c && c ≤ 102)
def hexB (c : UInt8) : Bool := hexI (c.toNat : Int)
def isDigestS (s : ByteArray) : Bool := s.data.toList.all hexB && ((s.size : Int) == 16)
end Go.Proofs.Sm

namespace Go.Proofs.Sm
open Go.RowKit

theorem splitB_size {sep : ByteArray} {n : Nat} : ∀ {s x : ByteArray}, x ∈ Lib.splitB sep 0 n s → x.size ≤ s.size := by
  induction n with
  | zero =>
    intro s x h
    simp [Lib.splitB] at h
    subst h
    exact Nat.le_refl _
  | succ k ih =>
    intro s x h
    unfold Lib.splitB at h
    split at h
    · simp at h; subst h; exact Nat.le_refl _
    · simp only [List.mem_cons] at h
      rcases h with rfl | h
      · rw [ByteArray.size_extract]; omega
      · have := ih h
        rw [ByteArray.size_extract] at this
        omega
/-- the parts of a path -/
def partsS (s : ByteArray) : List ByteArray := Lib.splitB ⟨#[47]⟩ 0 (Lib.countB s ⟨#[47]⟩) s
def isPathS (s : ByteArray) : Bool := withinB s.size 1 200 && (partsS s).all isPartS
theorem isPathS_eq (s : ByteArray) : isPathS s = (withinB s.size 1 200 && (partsS s).all isPartS) := rfl
theorem partsS_length (s : ByteArray) : (partsS s).length = Lib.countB s ⟨#[47]⟩ + 1 := Lib.splitB_all _ (by decide) 0 _ _ rfl
/-- a row of strings in a new block -/
theorem strs_cell (l : List ByteArray) (k : Nat) (h : k < l.length) : ((l.map Value.string).toArray)[k]? = some (.string l[k]) := by
  simp [h]
end Go.Proofs.Sm

namespace Go.Proofs.Sm
open Go.RowKit

theorem dropWhile_nil {α : Type} {p : α → Bool} : ∀ {l : List α}, l.dropWhile p = [] ↔ l.all p = true
  | [] => by simp
  | a :: l => by
    rw [List.dropWhile_cons, List.all_cons]
    cases h : p a
    · simp
    · simp only [if_true, Bool.true_and]
      exact dropWhile_nil
theorem dropWhile_all {α : Type} {p : α → Bool} : ∀ {l : List α}, (l.dropWhile p).all p = true → l.all p = true
  | [], _ => rfl
  | a :: l, h => by
    rw [List.dropWhile_cons] at h
    cases hp : p a
    · rw [hp] at h; exact h
    · rw [hp] at h
      rw [List.all_cons, hp, Bool.true_and]
      exact dropWhile_all h
theorem trimS_nil (l cs : List UInt8) : Lib.trimS l cs = [] ↔ l.all (cs.contains ·) = true := by
  unfold Lib.trimS Lib.trimLeftS Lib.trimRightS
  rw [dropWhile_nil, List.all_reverse]
  constructor
  · intro h
    have := dropWhile_all h
    rwa [List.all_reverse] at this
  · intro h
    have : l.reverse.dropWhile (cs.contains ·) = [] := dropWhile_nil.2 (by rwa [List.all_reverse])
    rw [this]; rfl
def hexDigits : List UInt8 := [48, 49, 50, 51, 52, 53, 54, 55, 56, 57, 97, 98, 99, 100, 101, 102]
theorem hexB_mem : ∀ c : UInt8, hexDigits.contains c = hexB c := by
  have h : ∀ n : Fin 256, hexDigits.contains (UInt8.ofNat n.val) = hexB (UInt8.ofNat n.val) := by decide +kernel
  intro c
  have := h ⟨c.toNat, c.toNat_lt⟩
  simpa using this
theorem trim_hex (l : List UInt8) : (Lib.trimS l hexDigits = []) ↔ l.all hexB = true := by
  rw [trimS_nil]
  have : (hexDigits.contains ·) = hexB := funext hexB_mem
  rw [this]
/-- digits -/
def digitI (c : Int) : Bool := 48 ≤ c && c ≤ 57
def digitB (c : UInt8) : Bool := digitI (c.toNat : Int)
def digits : List UInt8 := [48, 49, 50, 51, 52, 53, 54, 55, 56, 57]
theorem digitB_mem : ∀ c : UInt8, digits.contains c = digitB c := by
  have h : ∀ n : Fin 256, digits.contains (UInt8.ofNat n.val) = digitB (UInt8.ofNat n.val) := by decide +kernel
  intro c
  have := h ⟨c.toNat, c.toNat_lt⟩
  simpa using this
theorem trim_digits (l : List UInt8) : (Lib.trimS l digits = []) ↔ l.all digitB = true := by
  rw [trimS_nil]
  have : (digits.contains ·) = digitB := funext digitB_mem
  rw [this]
end Go.Proofs.Sm

namespace Go.Proofs.Sm
open Go.RowKit

def fnvStep (h : Nat) (c : UInt8) : Nat := ((h ^^^ c.toNat) * 1099511628211) % 18446744073709551616
def fnv (l : List UInt8) : Nat := l.foldl fnvStep 14695981039346656037
/-- fits 64 bits -/
def U64 (h : Nat) : Prop := h < 18446744073709551616
theorem fnvStep_lt (h : Nat) (c : UInt8) : U64 (fnvStep h c) := Nat.mod_lt _ (by decide)
theorem fnv_lt (l : List UInt8) : U64 (fnv l) := by
  unfold fnv
  have key : ∀ (l : List UInt8) (h : Nat), U64 h → U64 (l.foldl fnvStep h) := by
    intro l
    induction l with
    | nil => exact fun h hh => hh
    | cons c l ih => exact fun h _ => ih _ (fnvStep_lt h c)
  exact key l _ (by unfold U64; decide)
theorem fnv_zero (l : List UInt8) : fnv (l.take 0) = 14695981039346656037 := by rw [List.take_zero, fnv, List.foldl_nil]
theorem fnv_succ {l : List UInt8} {k : Nat} {x : UInt8} (hx : l[k]? = some x) : fnv (l.take (k + 1)) = fnvStep (fnv (l.take k)) x := by
  unfold fnv
  rw [List.take_add_one, hx, List.foldl_append, Option.toList_some, List.foldl_cons, List.foldl_nil]
theorem wrap_u64_byte (c : UInt8) : IntKind.u64.wrap (c.toNat : Int) = (c.toNat : Int) := by
  have := c.toNat_lt
  rw [IntKind.wrap_u64]
  omega
theorem fnv_walk (h : Nat) (hh : U64 h) (c : UInt8) : IntKind.u64.wrap (bits .xor .u64 (h : Int) (IntKind.u64.wrap (c.toNat : Int)) * 1099511628211) = ((fnvStep h c : Nat) : Int) := by
  rw [wrap_u64_byte, u64_xor_nat h c.toNat hh (by have := c.toNat_lt; omega), IntKind.wrap_u64]
  unfold fnvStep
  omega
def hexChar (d : Nat) : UInt8 := hexDigits.getD d 0
def digestS (l : List UInt8) : ByteArray := ⟨((List.range 16).map fun i => hexChar (fnv l / 16 ^ (15 - i) % 16)).toArray⟩
theorem digestS_eq {l : List UInt8} {h : Nat} (e : h = fnv l) : digestS l = ⟨((List.range 16).map fun i => hexChar (h / 16 ^ (15 - i) % 16)).toArray⟩ := by subst e; rfl
theorem hexGet (d : Nat) (hd : d < 16) : (⟨#[48, 49, 50, 51, 52, 53, 54, 55, 56, 57, 97, 98, 99, 100, 101, 102]⟩ : ByteArray)[d]'(show d < 16 from hd) = hexChar d := by
  have key : ∀ d : Fin 16, (⟨#[48, 49, 50, 51, 52, 53, 54, 55, 56, 57, 97, 98, 99, 100, 101, 102]⟩ : ByteArray)[d.val]'(show d.val < 16 from d.isLt) = hexChar d.val := by decide
  exact key ⟨d, hd⟩
theorem nibble (h j : Nat) (hh : U64 h) : bits .and .u64 ((h / 16 ^ j : Nat) : Int) 15 = ((h / 16 ^ j % 16 : Nat) : Int) := by
  have h1 : h / 16 ^ j < 18446744073709551616 := Nat.lt_of_le_of_lt (Nat.div_le_self _ _) hh
  have := u64_and_nat (h / 16 ^ j) 15 h1 (by decide)
  rw [nat_mask4] at this
  exact this
theorem digit_shift (h j : Nat) (hj : j < 16) : ((h : Int) / 2 ^ (60 - 4 * j)).tmod 16 = ((h / 16 ^ (15 - j) % 16 : Nat) : Int) := by
  have e : (2 : Int) ^ (60 - 4 * j) = ((16 ^ (15 - j) : Nat) : Int) := by
    rw [show 60 - 4 * j = 4 * (15 - j) by omega, Int.pow_mul]
    norm_cast
  rw [e, Int.tmod_eq_emod_of_nonneg (Int.ediv_nonneg (Int.natCast_nonneg _) (Int.natCast_nonneg _))]
  norm_cast
theorem shift4 (h j : Nat) : ((h / 16 ^ j : Nat) : Int) / 16 = ((h / 16 ^ (j + 1) : Nat) : Int) := by
  rw [Nat.pow_succ, ← Nat.div_div_eq_div_mul]
  omega
theorem hexPiece (d : Nat) (hd : d < 16) : (⟨#[48, 49, 50, 51, 52, 53, 54, 55, 56, 57, 97, 98, 99, 100, 101, 102]⟩ : ByteArray).extract d (d + 1) = ⟨[hexChar d].toArray⟩ := by
  have key : ∀ d : Fin 16, (⟨#[48, 49, 50, 51, 52, 53, 54, 55, 56, 57, 97, 98, 99, 100, 101, 102]⟩ : ByteArray).extract d.val (d.val + 1) = ⟨[hexChar d.val].toArray⟩ := by decide +kernel
  exact key ⟨d, hd⟩
theorem bytes_append (a b : List UInt8) : (⟨a.toArray⟩ : ByteArray) ++ ⟨b.toArray⟩ = ⟨(a ++ b).toArray⟩ := by
  apply ByteArray.ext
  simp
end Go.Proofs.Sm
