/- Lengths of numbers in bits, and the library's functions that reckon them. -/
import Derived.Test.YtlbhbjaimcinbaaBCode
import Derived.Test.YtlbhbjaimcinbaaAI21
set_option linter.unusedSimpArgs false
namespace Go.Proofs.Ytlbhbjaimcinbaa.AI
open Go

/-- How many bits a number has. -/
def blen (n : Nat) : Nat := if n = 0 then 0 else n.log2 + 1

theorem blen_zero : blen 0 = 0 := rfl
theorem blen_le {n k : Nat} : blen n ≤ k ↔ n < 2 ^ k := by
  unfold blen
  split
  · rename_i h; subst h; simp [Nat.two_pow_pos]
  · rename_i h
    rw [← Nat.log2_lt h]; omega
theorem blen_eq {n m : Nat} (h : ∀ k, n < 2 ^ k ↔ m ≤ k) : blen n = m := by
  have h1 := blen_le.2 ((h m).2 (Nat.le_refl _))
  have h2 := (h (blen n)).1 (blen_le.1 (Nat.le_refl _))
  omega
theorem blen_shift {n k : Nat} (h : 2 ^ k ≤ n) : blen n = k + blen (n / 2 ^ k) := by
  apply blen_eq
  intro j
  by_cases hj : k ≤ j
  · obtain ⟨i, rfl⟩ : ∃ i, j = k + i := ⟨j - k, by omega⟩
    have : n < 2 ^ (k + i) ↔ n / 2 ^ k < 2 ^ i := by
      rw [Nat.div_lt_iff_lt_mul (Nat.two_pow_pos k), Nat.pow_add, Nat.mul_comm]
    rw [this, ← blen_le]; omega
  · have h1 : 2 ^ j ≤ 2 ^ k := Nat.pow_le_pow_right (by omega) (by omega)
    constructor
    · intro h2; omega
    · intro h2; omega

theorem lenTab (x : Nat) (h : x < 256) : Lit0[x]? = some (UInt8.ofNat (blen x)) := by
  revert x; decide +kernel
theorem lenTab_nat (x : Nat) (h : x < 256) : (UInt8.ofNat (blen x)).toNat = blen x := by
  have h1 : blen x ≤ 8 := blen_le.2 h
  rw [UInt8.toNat_ofNat']; omega

theorem fdiv_nat (n m : Nat) : Int.fdiv (n : Int) (m : Int) = ((n / m : Nat) : Int) := by
  rw [Int.fdiv_eq_ediv_of_nonneg _ (by omega)]; rfl
theorem wrap_i64 {n : Int} (h1 : -9223372036854775808 ≤ n) (h2 : n < 9223372036854775808) : IntKind.i64.wrap n = n := by
  simp [IntKind.wrap, IntKind.bits, IntKind.signed]; omega
theorem wrap_u64 {n : Int} (h1 : 0 ≤ n) (h2 : n < 18446744073709551616) : IntKind.u64.wrap n = n := by
  simp [IntKind.wrap, IntKind.bits, IntKind.signed]; omega
theorem wrap_u64_eq (n : Int) : IntKind.u64.wrap n = n % 18446744073709551616 := by
  simp [IntKind.wrap, IntKind.bits, IntKind.signed]
theorem wrap_u8 (n : Int) : IntKind.u8.wrap n = n % 256 := by
  simp [IntKind.wrap, IntKind.bits, IntKind.signed]

theorem shr_nat (k : IntKind) (n : Nat) (s : Nat) (hs : s ≤ k.bits) : (n : Int).fdiv (2 ^ min ((s : Int)).toNat k.bits) = ((n / 2 ^ s : Nat) : Int) := by
  rw [show min ((s : Int)).toNat k.bits = s by simp; omega, ← fdiv_nat]; simp

end Go.Proofs.Ytlbhbjaimcinbaa.AI
