/- Plain words: the digest of bytes. -/
import Derived.Test.YtnhcaelapadhaaaGreatDoorPlain3
import Derived.Laws.BitsAllLaws
namespace Go.Proofs.Sm
open Go.RowKit

def fnvStep (h : Nat) (c : UInt8) : Nat := ((h ^^^ c.toNat) * 1099511628211) % 18446744073709551616
def fnv (l : List UInt8) : Nat := l.foldl fnvStep 14695981039346656037
/-- fits 64 bits -/
def U64 (h : Nat) : Prop := h < 18446744073709551616
theorem fnvStep_lt (h : Nat) (c : UInt8) : U64 (fnvStep h c) := Nat.mod_lt _ (by decide)
theorem fnv_lt (l : List UInt8) : U64 (fnv l) := by
  unfold fnv
  have key : ∀ (l : List UInt8) (h : Nat), U64 h → U64 (l.foldl fnvStep h) := by
    intro l
    induction l with
    | nil => exact fun h hh => hh
    | cons c l ih => exact fun h _ => ih _ (fnvStep_lt h c)
  exact key l _ (by unfold U64; decide)
theorem fnv_zero (l : List UInt8) : fnv (l.take 0) = 14695981039346656037 := by rw [List.take_zero, fnv, List.foldl_nil]
theorem fnv_succ {l : List UInt8} {k : Nat} {x : UInt8} (hx : l[k]? = some x) : fnv (l.take (k + 1)) = fnvStep (fnv (l.take k)) x := by
  unfold fnv
  rw [List.take_add_one, hx, List.foldl_append, Option.toList_some, List.foldl_cons, List.foldl_nil]
theorem wrap_u64_byte (c : UInt8) : IntKind.u64.wrap (c.toNat : Int) = (c.toNat : Int) := by
  have := c.toNat_lt
  rw [IntKind.wrap_u64]
  omega
theorem fnv_walk (h : Nat) (hh : U64 h) (c : UInt8) : IntKind.u64.wrap (bits .xor .u64 (h : Int) (IntKind.u64.wrap (c.toNat : Int)) * 1099511628211) = ((fnvStep h c : Nat) : Int) := by
  rw [wrap_u64_byte, u64_xor_nat h c.toNat hh (by have := c.toNat_lt; omega), IntKind.wrap_u64]
  unfold fnvStep
  omega
def hexChar (d : Nat) : UInt8 := hexDigits.getD d 0
def digestS (l : List UInt8) : ByteArray := ⟨((List.range 16).map fun i => hexChar (fnv l / 16 ^ (15 - i) % 16)).toArray⟩
theorem digestS_eq {l : List UInt8} {h : Nat} (e : h = fnv l) : digestS l = ⟨((List.range 16).map fun i => hexChar (h / 16 ^ (15 - i) % 16)).toArray⟩ := by subst e; rfl
theorem hexGet (d : Nat) (hd : d < 16) : (⟨#[48, 49, 50, 51, 52, 53, 54, 55, 56, 57, 97, 98, 99, 100, 101, 102]⟩ : ByteArray)[d]'(show d < 16 from hd) = hexChar d := by
  have key : ∀ d : Fin 16, (⟨#[48, 49, 50, 51, 52, 53, 54, 55, 56, 57, 97, 98, 99, 100, 101, 102]⟩ : ByteArray)[d.val]'(show d.val < 16 from d.isLt) = hexChar d.val := by decide
  exact key ⟨d, hd⟩
theorem nibble (h j : Nat) (hh : U64 h) : bits .and .u64 ((h / 16 ^ j : Nat) : Int) 15 = ((h / 16 ^ j % 16 : Nat) : Int) := by
  have h1 : h / 16 ^ j < 18446744073709551616 := Nat.lt_of_le_of_lt (Nat.div_le_self _ _) hh
  have := u64_and_nat (h / 16 ^ j) 15 h1 (by decide)
  rw [nat_mask4] at this
  exact this
theorem digit_shift (h j : Nat) (hj : j < 16) : ((h : Int) / 2 ^ (60 - 4 * j)).tmod 16 = ((h / 16 ^ (15 - j) % 16 : Nat) : Int) := by
  have e : (2 : Int) ^ (60 - 4 * j) = ((16 ^ (15 - j) : Nat) : Int) := by
    rw [show 60 - 4 * j = 4 * (15 - j) by omega, Int.pow_mul]
    norm_cast
  rw [e, Int.tmod_eq_emod_of_nonneg (Int.ediv_nonneg (Int.natCast_nonneg _) (Int.natCast_nonneg _))]
  norm_cast
theorem shift4 (h j : Nat) : ((h / 16 ^ j : Nat) : Int) / 16 = ((h / 16 ^ (j + 1) : Nat) : Int) := by
  rw [Nat.pow_succ, ← Nat.div_div_eq_div_mul]
  omega
theorem hexPiece (d : Nat) (hd : d < 16) : (⟨#[48, 49, 50, 51, 52, 53, 54, 55, 56, 57, 97, 98, 99, 100, 101, 102]⟩ : ByteArray).extract d (d + 1) = ⟨[hexChar d].toArray⟩ := by
  have key : ∀ d : Fin 16, (⟨#[48, 49, 50, 51, 52, 53, 54, 55, 56, 57, 97, 98, 99, 100, 101, 102]⟩ : ByteArray).extract d.val (d.val + 1) = ⟨[hexChar d.val].toArray⟩ := by decide +kernel
  exact key ⟨d, hd⟩
theorem bytes_append (a b : List UInt8) : (⟨a.toArray⟩ : ByteArray) ++ ⟨b.toArray⟩ = ⟨(a ++ b).toArray⟩ := by
  apply ByteArray.ext
  simp
end Go.Proofs.Sm
