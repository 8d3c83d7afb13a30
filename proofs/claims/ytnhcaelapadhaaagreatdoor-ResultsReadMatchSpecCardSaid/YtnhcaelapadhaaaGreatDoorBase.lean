/- Small words and laws that all walks of this family share: endings, cells behind a call, a typed reading of memory (what a list of cells stands for), slices of whatever element. No program is in sight here. -/
import Derived.WalkKit
import Derived.ProofKit
import Derived.Lib.Hide
import Derived.Deep.Slices
import Derived.Laws.BytesArg
import Derived.Deep.Draws
namespace Go.Proofs.Sm
open Go.RowKit

/-! ### Endings -/
theorem ret_bool {a b : Bool} (h : a = b) : Ending.returned (.bool a) = .returned (.bool b) := by rw [h]
theorem ret_int {k : IntKind} {a b : Int} (h : a = b) : Ending.returned (.int k a) = .returned (.int k b) := by rw [h]
theorem ret_string {a b : ByteArray} (h : a = b) : Ending.returned (.string a) = .returned (.string b) := by rw [h]

theorem of_not {b : Bool} (h : (!b) = true) : b = false := by simpa using h
theorem of_not' {b : Bool} (h : (!b) = false) : b = true := by simpa using h

/-! ### Cells behind a call -/
theorem bcell {W w1 : World} (hb : Below W.heap.size W w1) :
    (∀ b o, b < W.heap.size → w1.cell? ⟨b, o, none⟩ = W.cell? ⟨b, o, none⟩) ∧ (∀ b o, b < W.heap.size → w1.frozen? ⟨b, o, none⟩ = W.frozen? ⟨b, o, none⟩) :=
  ⟨fun b o h => hb.cell (p := ⟨b, o, none⟩) h, fun b o h => hb.frozen (p := ⟨b, o, none⟩) h⟩
/-- behind a box and a call the heap has grown -/
theorem grew {W w1 : World} {o : Obj} (hb : Below (W.alloc o).heap.size (W.alloc o) w1) : W.heap.size < w1.heap.size := by
  have := hb.size
  simp at this
  omega
theorem fr_refl (a : World) : Below a.heap.size a a := Below.refl _ _
theorem fr_alloc {a w : World} (h : Below a.heap.size a w) (o : Obj) : Below a.heap.size a (w.alloc o) := h.alloc h.size o
theorem fr_call {a w w1 : World} (h : Below a.heap.size a w) (hb : Below w.heap.size w w1) : Below a.heap.size a w1 := h.trans (hb.mono h.size)
theorem fr_box {a w w1 : World} {o : Obj} (h : Below a.heap.size a w) (hb : Below (w.alloc o).heap.size (w.alloc o) w1) : Below a.heap.size a w1 := fr_call (fr_alloc h o) hb
theorem fr_set {a w : World} (h : Below a.heap.size a w) {p : Addr} (hp : a.heap.size ≤ p.block) (u : Value) : Below a.heap.size a (w.setCell p u) := h.setCell hp u
theorem below_drewN {B : Nat} {a w : World} (h : Below B a w) (n : Nat) : Below B a (w.drewN n) := ⟨h.os, h.tape, h.output, h.size, h.block⟩
theorem of_drewN {B : Nat} {w w1 : World} {n : Nat} (h : Below B (w.drewN n) w1) : Below B w w1 := ⟨h.os, h.tape, h.output, h.size, h.block⟩
theorem of_drew {B : Nat} {w w1 : World} (h : Below B w.drew w1) : Below B w w1 := ⟨h.os, h.tape, h.output, h.size, h.block⟩
theorem below_eq {B : Nat} {w w1 : World} (h : w = w1) : Below B w w1 := h ▸ Below.refl _ _
theorem below_drewn {B : Nat} {w w1 : World} (h : ∃ n, w1 = w.drewN n) : Below B w w1 := by
  obtain ⟨n, rfl⟩ := h
  exact below_drewN (Below.refl _ _) n

/-! ### Bytes of a string -/
theorem all_step {p : UInt8 → Bool} {s : ByteArray} {k : Nat} (hlt : k < s.size) (h : (s.data.toList.take k).all p = true) (hp : p s[k] = true) :
    (s.data.toList.take (k + 1)).all p = true := by
  rw [List.take_succ_eq_append_getElem (by simpa using hlt), List.all_append, h]
  simp; exact hp
theorem all_no {p : UInt8 → Bool} {s : ByteArray} {k : Nat} (hlt : k < s.size) (hp : p s[k] = false) : s.data.toList.all p = false := by
  rw [List.all_eq_false]
  refine ⟨s[k], ?_, by simp [hp]⟩
  have h : s.data[k]'hlt ∈ s.data := Array.getElem_mem hlt
  exact Array.mem_toList_iff.2 h
theorem all_end {p : UInt8 → Bool} {s : ByteArray} {k : Nat} (hlt : ¬ k < s.size) (h : (s.data.toList.take k).all p = true) : s.data.toList.all p = true := by
  rwa [List.take_of_length_le (by simp; exact Nat.le_of_not_lt hlt)] at h

theorem lall_step {α : Type} {p : α → Bool} {l : List α} {k : Nat} {x : α} (hx : l[k]? = some x) (h : (l.take k).all p = true) (hp : p x = true) : (l.take (k + 1)).all p = true := by
  rw [List.take_add_one, hx, List.all_append, h]
  simp [hp]
theorem lall_no {α : Type} {p : α → Bool} {l : List α} {k : Nat} {x : α} (hx : l[k]? = some x) (hp : p x = false) : l.all p = false := by
  rw [List.all_eq_false]
  exact ⟨x, List.mem_of_getElem? hx, by simp [hp]⟩
theorem lall_end {α : Type} {p : α → Bool} {l : List α} {k : Nat} (hlt : ¬ k < l.length) (h : (l.take k).all p = true) : l.all p = true := by
  rwa [List.take_of_length_le (by omega)] at h
theorem any_step {α : Type} {p : α → Bool} {l : List α} {k : Nat} {x : α} (hx : l[k]? = some x) (h : (l.take k).any p = false) (hp : p x = false) : (l.take (k + 1)).any p = false := by
  rw [List.take_add_one, hx, List.any_append, h]
  simp [hp]
theorem any_yes {α : Type} {p : α → Bool} {l : List α} {k : Nat} {x : α} (hx : l[k]? = some x) (hp : p x = true) : l.any p = true := by
  rw [List.any_eq_true]
  exact ⟨x, List.mem_of_getElem? hx, hp⟩
theorem any_end {α : Type} {p : α → Bool} {l : List α} {k : Nat} (hlt : ¬ k < l.length) (h : (l.take k).any p = false) : l.any p = false := by
  rwa [List.take_of_length_le (by omega)] at h
theorem at_lt {α : Type} {l : List α} {k : Nat} (h : k < l.length) : ∃ x, l[k]? = some x := ⟨l[k], List.getElem?_eq_getElem h⟩

/-! ### A typed reading of memory: the cells 'vs' stand for 'x', and all that they lead to lies in blocks of S -/
class Rep (α : Type) where
  sz : Nat
  rep : World → (Nat → Prop) → α → List Value → Prop
  len : ∀ {w S x vs}, rep w S x vs → vs.length = sz
  keep : ∀ {w w' : World} {S : Nat → Prop} {x vs}, (∀ k, S k → w'.heap[k]? = w.heap[k]?) → rep w S x vs → rep w' S x vs
  more : ∀ {w : World} {S S' : Nat → Prop} {x vs}, (∀ k, S k → S' k) → rep w S x vs → rep w S' x vs

def At (w : World) (b o : Nat) (vs : List Value) : Prop := ∀ j v, vs[j]? = some v → w.cell? ⟨b, o + j, none⟩ = some v
theorem At.keep {w w' : World} {b o : Nat} {vs : List Value} (h : At w b o vs) (hk : w'.heap[b]? = w.heap[b]?) : At w' b o vs :=
  fun j v hv => (World.cell?_of_block (w := w) hk).trans (h j v hv)

/-- A slice that reads as a list; nil and empty ones are let in. -/
def Sl {α : Type} [Rep α] (w : World) (S : Nat → Prop) (A : Option Addr) (n : Nat) (l : List α) : Prop :=
  l.length = n ∧ n ≤ maxLen ∧ (0 < n → ∃ b o, A = some ⟨b, o, none⟩ ∧ S b ∧ ∀ i x, l[i]? = some x → ∃ vs, Rep.rep w S x vs ∧ At w b (o + i * Rep.sz α) vs)

section
variable {α : Type} [Rep α] {w w' : World} {S S' : Nat → Prop} {A : Option Addr} {n : Nat} {l : List α}
theorem Sl.keep (hk : ∀ k, S k → w'.heap[k]? = w.heap[k]?) (h : Sl w S A n l) : Sl w' S A n l := by
  refine ⟨h.1, h.2.1, fun hn => ?_⟩
  obtain ⟨b, o, e, hb, hc⟩ := h.2.2 hn
  refine ⟨b, o, e, hb, fun i x hx => ?_⟩
  obtain ⟨vs, hr, ha⟩ := hc i x hx
  exact ⟨vs, Rep.keep hk hr, ha.keep (hk _ hb)⟩
theorem Sl.more (hs : ∀ k, S k → S' k) (h : Sl w S A n l) : Sl w S' A n l := by
  refine ⟨h.1, h.2.1, fun hn => ?_⟩
  obtain ⟨b, o, e, hb, hc⟩ := h.2.2 hn
  refine ⟨b, o, e, hs _ hb, fun i x hx => ?_⟩
  obtain ⟨vs, hr, ha⟩ := hc i x hx
  exact ⟨vs, Rep.more hs hr, ha⟩
theorem Sl.nil : Sl w S none 0 ([] : List α) := ⟨rfl, Nat.zero_le _, fun h => absurd h (by omega)⟩
theorem Sl.at {k : Nat} (h : Sl w S A n l) (hk : k < l.length) :
    ∃ b o vs, A = some ⟨b, o, none⟩ ∧ S b ∧ Rep.rep w S l[k] vs ∧ At w b (o + k * Rep.sz α) vs := by
  obtain ⟨b, o, e, hb, hc⟩ := h.2.2 (by have := h.1; omega)
  obtain ⟨vs, hr, ha⟩ := hc k l[k] (List.getElem?_eq_getElem hk)
  exact ⟨b, o, vs, e, hb, hr, ha⟩
theorem Sl.size (h : Sl w S A n l) : n ≤ maxLen := h.2.1
theorem Sl.length (h : Sl w S A n l) : l.length = n := h.1
end

/-- Below block number B. -/
def Lt (B : Nat) : Nat → Prop := fun k => k < B
theorem keep_lt {B : Nat} {w w' : World} (h : Below B w w') : ∀ k, Lt B k → w'.heap[k]? = w.heap[k]? := fun k hk => h.block k hk
theorem lt_mono {B B' : Nat} (h : B ≤ B') : ∀ k, Lt B k → Lt B' k := fun _ hk => Nat.lt_of_lt_of_le hk h

instance : Rep ByteArray where
  sz := 1
  rep _ _ x vs := vs = [.string x] ∧ x.size ≤ maxLen
  len h := by rw [h.1]; rfl
  keep _ h := h
  more _ h := h
instance : Rep Bool where
  sz := 1
  rep _ _ x vs := vs = [.bool x]
  len h := by rw [h]; rfl
  keep _ h := h
  more _ h := h
instance : Rep UInt8 where
  sz := 1
  rep _ _ x vs := vs = [.int .u8 x.toNat]
  len h := by rw [h]; rfl
  keep _ h := h
  more _ h := h
/-- Go's int. -/
def InInt (n : Int) : Prop := -9223372036854775808 ≤ n ∧ n ≤ 9223372036854775807
instance : Rep Int where
  sz := 1
  rep _ _ x vs := vs = [.int .i64 x] ∧ InInt x
  len h := by rw [h.1]; rfl
  keep _ h := h
  more _ h := h
instance {α : Type} [Rep α] : Rep (List α) where
  sz := 1
  rep w S l vs := ∃ A n c, vs = [.slice A n c] ∧ n ≤ c ∧ c ≤ maxLen ∧ Sl w S A n l
  len h := by obtain ⟨A, n, c, rfl, _⟩ := h; rfl
  keep hk h := by obtain ⟨A, n, c, e, h1, h2, h3⟩ := h; exact ⟨A, n, c, e, h1, h2, h3.keep hk⟩
  more hs h := by obtain ⟨A, n, c, e, h1, h2, h3⟩ := h; exact ⟨A, n, c, e, h1, h2, h3.more hs⟩

section
variable {w : World} {S : Nat → Prop} {A : Option Addr} {n k : Nat}
theorem Sl.str {l : List ByteArray} (h : Sl w S A n l) (hk : k < n) :
    ∃ b o x, A = some ⟨b, o, none⟩ ∧ S b ∧ l[k]? = some x ∧ x.size ≤ maxLen ∧ w.cell? ⟨b, o + k, none⟩ = some (.string x) := by
  have hk' : k < l.length := by rw [h.1]; exact hk
  obtain ⟨b, o, vs, e, hb, ⟨rfl, hs⟩, ha⟩ := h.at hk'
  have h0 := ha 0 _ rfl
  simp only [Rep.sz, Nat.mul_one, Nat.add_zero] at h0
  exact ⟨b, o, _, e, hb, List.getElem?_eq_getElem hk', hs, h0⟩
theorem Sl.byte {l : List UInt8} (h : Sl w S A n l) (hk : k < n) :
    ∃ b o x, A = some ⟨b, o, none⟩ ∧ S b ∧ l[k]? = some x ∧ w.cell? ⟨b, o + k, none⟩ = some (.int .u8 x.toNat) := by
  have hk' : k < l.length := by rw [h.1]; exact hk
  obtain ⟨b, o, vs, e, hb, rfl, ha⟩ := h.at hk'
  have h0 := ha 0 _ rfl
  simp only [Rep.sz, Nat.mul_one, Nat.add_zero] at h0
  exact ⟨b, o, _, e, hb, List.getElem?_eq_getElem hk', h0⟩
/-- A new row of strings. -/
theorem Sl.new_strs {w : World} {t : TypeId} {l : List ByteArray} (hl : l.length ≤ maxLen) (hs : ∀ x ∈ l, x.size ≤ maxLen) :
    Sl (w.alloc (.cells (l.map Value.string).toArray t)) (Lt (w.heap.size + 1)) (some ⟨w.heap.size, 0, none⟩) l.length l :=
  ⟨rfl, hl, fun _ => ⟨_, _, rfl, Nat.lt_succ_self _, fun i x hx => ⟨[.string x], ⟨rfl, hs x (List.mem_of_getElem? hx)⟩, fun j v hv => by
    have hj : j = 0 ∧ v = .string x := by
      cases j with
      | zero => simp at hv; exact ⟨rfl, hv.symm⟩
      | succ j => simp at hv
    obtain ⟨rfl, rfl⟩ := hj
    have h0 : (w.alloc (.cells (l.map Value.string).toArray t)).heap[w.heap.size]? = some (.cells (l.map Value.string).toArray t (0, 0)) := heap_alloc_new w _
    have h1 : i * Rep.sz ByteArray + 0 = i := by simp [Rep.sz]
    simp only [World.cell?, h0, Nat.zero_add, h1]
    have h2 : (l.map Value.string)[i]? = some (.string x) := by rw [List.getElem?_map, hx]; rfl
    simpa using h2⟩⟩⟩
end

/-- string(b): the bytes of a slice as a string. -/
theorem run_bytes_string {P : Program} {w : World} {S : Nat → Prop} {A : Option Addr} {n : Nat} {l : List UInt8} (h : Sl w S A n l) (src dst e : TypeId) (c : Nat)
    (hs : P.underlying src = some (.slice e)) (he : P.underlying e = some (.int .u8)) (hd : P.underlying dst = some .string) :
    (convert src dst (.slice A n c)).run P w = .ok (.string ⟨l.toArray⟩) w := by
  have hnum : ∀ l : List UInt8, strOfNums (l.map fun x => (x.toNat : Int)) = ⟨l.toArray⟩ := by
    intro l
    simp [strOfNums, Function.comp_def]
  rcases Nat.eq_zero_or_pos n with h0 | h0
  · subst h0
    have hl : l = [] := List.eq_nil_of_length_eq_zero h.1
    subst hl
    rcases A with _ | a
    · exact run_convert_bytes_nil w src e hs he 0 c dst hd
    · rw [run_convert_bytes_string w src dst e _ 0 c hs he hd, run_bytesToString w a 0 c [] (by simp [loadCells, loadCellsFrom, Sem.run_pure])]
      rfl
  · obtain ⟨b, o, rfl, _, hc⟩ := h.2.2 h0
    have hlen := h.1
    rw [run_convert_bytes_arg w src e hs he b o n c (l.map fun x => (x.toNat : Int)) (by simpa using hlen) (fun i hi => ?_) dst hd, hnum]
    obtain ⟨vs, hr, ha⟩ := hc i (l[i]'(by omega)) (List.getElem?_eq_getElem _)
    obtain rfl : vs = [.int .u8 (l[i]'(by omega)).toNat] := hr
    have := ha 0 _ rfl
    simp only [Rep.sz, Nat.mul_one, Nat.add_zero] at this
    rw [this]
    simp [List.getD, List.getElem?_eq_getElem (show i < l.length by omega)]

/-! ### From the form's own reading -/
theorem list_of {α : Type} {p : Nat → α → Prop} {len : Nat} (key : ∀ i, i < len → ∃ x : α, p i x) : ∃ l : List α, l.length = len ∧ ∀ i x, l[i]? = some x → p i x := by
  induction len with
  | zero => exact ⟨[], rfl, fun i x hx => by simp at hx⟩
  | succ k ih =>
    obtain ⟨l, hlen, hl⟩ := ih (fun i hi => key i (by omega))
    obtain ⟨x, hx⟩ := key k (by omega)
    refine ⟨l ++ [x], by simp [hlen], fun i y hy => ?_⟩
    by_cases hik : i < l.length
    · rw [List.getElem?_append_left hik] at hy
      exact hl i y hy
    · rw [List.getElem?_append_right (by omega)] at hy
      have : i - l.length = 0 := by
        have := (List.getElem?_eq_some_iff.1 hy).1
        simp at this
        omega
      rw [this] at hy
      have hik' : i = k := by omega
      subst hik'
      obtain rfl : x = y := by simpa using hy
      exact hx
section
variable {H : Type} {enc : TypeId × Value → H} {P : Program} {w : World} {base : Nat} {spare : Nat → Bool} {held : Bool}
/-- What reads at type t stands for some x of α. -/
def Dec (enc : TypeId × Value → H) (P : Program) (w : World) (base : Nat) (spare : Nat → Bool) (held : Bool) (t : TypeId) (α : Type) [Rep α] : Prop :=
  ∀ fuel cs d, DataW.trod enc P w base spare held fuel t cs = some d → ∃ x : α, Rep.rep w (Lt w.heap.size) x cs
theorem dec_string {t : TypeId} (ht : P.underlying t = some .string) : Dec enc P w base spare held t ByteArray := fun fuel cs d h => by
  obtain ⟨s, rfl, _, hs⟩ := DataW.trod_string ht h
  exact ⟨s, rfl, hs⟩
theorem dec_bool {t : TypeId} (ht : P.underlying t = some .bool) : Dec enc P w base spare held t Bool := fun fuel cs d h => by
  obtain ⟨s, rfl, _⟩ := DataW.trod_bool ht h
  exact ⟨s, rfl⟩
theorem dec_int {t : TypeId} (ht : P.underlying t = some (.int .i64)) : Dec enc P w base spare held t Int := fun fuel cs d h => by
  obtain ⟨n, rfl, _, hw⟩ := DataW.trod_int ht h
  refine ⟨n, rfl, ?_⟩
  simp [Lit.wf, IntKind.min, IntKind.max, IntKind.signed, IntKind.bits] at hw
  unfold InInt
  omega
theorem dec_u8 {t : TypeId} (ht : P.underlying t = some (.int .u8)) : Dec enc P w base spare held t UInt8 := fun fuel cs d h => by
  obtain ⟨n, rfl, _, hw⟩ := DataW.trod_int ht h
  have hb : 0 ≤ n ∧ n < 256 := by
    simp [Lit.wf, IntKind.min, IntKind.max, IntKind.signed, IntKind.bits] at hw
    omega
  refine ⟨UInt8.ofNat n.toNat, ?_⟩
  show _ = _
  rw [UInt8.toNat_ofNat']
  congr
  omega
theorem dec_slice {α : Type} [Rep α] {t e : TypeId} (ht : P.underlying t = some (.slice e)) (hC : P.cellsOf e = Rep.sz α) (hpos : 0 < Rep.sz α) (hd : Dec enc P w base spare held e α) :
    Dec enc P w base spare held t (List α) := fun fuel cs d h => by
  rcases Deep.open_slice ht h with ⟨rfl, _⟩ | ⟨a, len, cap, m, nn, D, Pl, rfl, _, hl, hm, hmm, _, hi⟩
  · exact ⟨[], none, 0, 0, rfl, Nat.le_refl _, Nat.zero_le _, Sl.nil⟩
  · have hlm : len ≤ m := by rw [hmm]; split <;> omega
    have key : ∀ i, i < len → ∃ x : α, ∃ vs, Rep.rep w (Lt w.heap.size) x vs ∧ ∀ j v, vs[j]? = some v → w.cell? ((a.add (i * P.cellsOf e)).add j) = some v := by
      intro i hil
      obtain ⟨cs', hc, ht'⟩ := hi i (by omega)
      obtain ⟨x, hx⟩ := hd _ _ _ ht'
      obtain ⟨_, hlen, hat⟩ := World.cells?_some hc
      refine ⟨x, cs', hx, fun j v hv => ?_⟩
      have hj : j < P.cellsOf e := by
        have := (List.getElem?_eq_some_iff.1 hv).1
        omega
      rw [hat j hj, hv]
    obtain ⟨l, hlen, hl'⟩ := list_of key
    refine ⟨l, some a, len, cap, rfl, hl, hm, hlen, by omega, fun hn => ?_⟩
    obtain ⟨b, off, spot⟩ := a
    obtain ⟨vs0, hr0, hc0⟩ := hl' 0 l[0] (List.getElem?_eq_getElem (by omega))
    have hl0 := Rep.len hr0
    have c00 := hc0 0 (vs0[0]'(by omega)) (List.getElem?_eq_getElem (by omega))
    simp only [Nat.zero_mul, Addr.add, if_true] at c00
    have hspot : spot = none := by simpa using World.cell?_spot c00
    subst hspot
    have hb : b < w.heap.size := by
      rcases Nat.lt_or_ge b w.heap.size with h1 | h1
      · exact h1
      · simp [World.cell?, Array.getElem?_eq_none h1] at c00
    refine ⟨b, off, rfl, hb, fun i x hx => ?_⟩
    obtain ⟨vs, hr, hc⟩ := hl' i x hx
    refine ⟨vs, hr, fun j v hv => ?_⟩
    have := hc j v hv
    rw [Deep.add_add, hC] at this
    rw [← this]
    congr 1
    unfold Addr.add
    split
    · simp [*]
    · simp [Nat.add_assoc]
end
end Go.Proofs.Sm
