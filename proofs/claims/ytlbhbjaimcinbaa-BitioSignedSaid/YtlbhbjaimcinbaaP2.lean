/- Strings of bits, and the bytes that hold them. -/
import Derived.Test.YtlbhbjaimcinbaaP1
set_option linter.unusedSimpArgs false
namespace Go.Proofs.Ytlbhbjaimcinbaa.AI
open Go

/-- A number's bits, the highest first. -/
def bitsOf : Nat → Nat → List Bool
  | 0, _ => []
  | w + 1, n => n.testBit w :: bitsOf w n
theorem bitsOf_length (w n : Nat) : (bitsOf w n).length = w := by
  induction w with
  | zero => rfl
  | succ w ih => simp [bitsOf, ih]

/-- The bytes hold the bits; behind these all is 0. -/
structure Bits (d : List Nat) (bs : List Bool) : Prop where
  small : ∀ x ∈ d, x < 256
  bit : ∀ j x, d[j]? = some x → ∀ k, k < 8 → x.testBit (7 - k) = bs.getD (8 * j + k) false

theorem Bits.nil : Bits [] [] := ⟨fun _ h => by simp at h, fun j x h => by simp at h⟩
theorem Bits.zero {d : List Nat} {bs : List Bool} (h : Bits d bs) (hl : bs.length ≤ 8 * d.length) : Bits (d ++ [0]) bs := by
  refine ⟨fun x hx => ?_, fun j x hx k hk => ?_⟩
  · rcases List.mem_append.1 hx with hx | hx
    · exact h.small x hx
    · simp at hx; omega
  · rw [List.getElem?_append] at hx
    split at hx
    · exact h.bit j x hx k hk
    · have : j = d.length ∧ x = 0 := by
        rcases Nat.lt_or_ge (j - d.length) 1 with h1 | h1
        · have : j - d.length = 0 := by omega
          rw [this] at hx; simp at hx; exact ⟨by omega, hx.symm⟩
        · rw [List.getElem?_eq_none (by simpa using h1)] at hx; simp at hx
      obtain ⟨rfl, rfl⟩ := this
      rw [List.getD_eq_getElem?_getD, List.getElem?_eq_none (by omega)]
      simp
theorem Bits.put {d : List Nat} {bs : List Bool} (h : Bits d bs) (b : Bool) {j x : Nat} (hj : j = bs.length / 8) (hx : d[j]? = some x) :
    Bits (d.set j (x ||| (b.toNat <<< (7 - bs.length % 8)))) (bs ++ [b]) := by
  have hlt : j < d.length := (List.getElem?_eq_some_iff.1 hx).1
  have hxs : x < 256 := h.small x (List.mem_of_getElem? hx)
  have hb : b.toNat <<< (7 - bs.length % 8) < 256 := by
    rw [Nat.shiftLeft_eq]
    have h1 : 2 ^ (7 - bs.length % 8) ≤ 2 ^ 7 := Nat.pow_le_pow_right (by omega) (by omega)
    have h2 : b.toNat ≤ 1 := by cases b <;> simp
    calc b.toNat * 2 ^ (7 - bs.length % 8) ≤ 1 * 2 ^ 7 := Nat.mul_le_mul h2 h1
      _ < 256 := by decide
  refine ⟨fun y hy => ?_, fun i y hy k hk => ?_⟩
  · rcases List.mem_or_eq_of_mem_set hy with hy | rfl
    · exact h.small y hy
    · exact Nat.or_lt_two_pow (n := 8) hxs hb
  · rw [List.getElem?_set] at hy
    split at hy
    · rename_i hji
      subst hji
      simp only [Option.some.injEq] at hy
      subst hy
      rw [Nat.testBit_or, h.bit j x hx k hk, Nat.testBit_shiftLeft]
      have hbt : ∀ i, b.toNat.testBit i = (decide (i = 0) && b) := by
        intro i; cases b
        · simp
        · cases i <;> simp [Nat.testBit_succ]
      rw [hbt]
      simp only [List.getD_eq_getElem?_getD, List.getElem?_append]
      by_cases h1 : 8 * j + k < bs.length
      · rw [if_pos h1]
        have : decide (7 - bs.length % 8 ≤ 7 - k) = true ∧ ¬ (7 - k - (7 - bs.length % 8) = 0) := by
          constructor
          · simp; omega
          · omega
        simp [this.2]
      · rw [if_neg h1, List.getElem?_eq_none (by omega : bs.length ≤ 8 * j + k)]
        by_cases h2 : 8 * j + k = bs.length
        · have e1 : 8 * j + k - bs.length = 0 := by omega
          have e2 : 7 - k - (7 - bs.length % 8) = 0 := by omega
          have e3 : 7 - bs.length % 8 ≤ 7 - k := by omega
          simp [e1, e2, e3]
        · have e3 : ¬ (7 - bs.length % 8 ≤ 7 - k) := by omega
          have e1 : 8 * j + k - bs.length = (8 * j + k - bs.length - 1) + 1 := by omega
          rw [e1]
          simp [e3]
    · have hne := h.bit i y hy k hk
      rw [hne]
      simp only [List.getD_eq_getElem?_getD, List.getElem?_append]
      split
      · rfl
      · rename_i h1 h2
        rw [List.getElem?_eq_none (by omega : bs.length ≤ 8 * i + k)]
        have : 8 * i + k - bs.length = (8 * i + k - bs.length - 1) + 1 := by omega
        rw [this]
        simp

theorem Bits.same {d d' : List Nat} {bs : List Bool} (h : Bits d bs) (h' : Bits d' bs) (hl : d.length = d'.length) : d = d' := by
  apply List.ext_getElem hl
  intro j h1 h2
  apply Nat.eq_of_testBit_eq
  intro i
  by_cases hi : i < 8
  · have a := h.bit j _ (List.getElem?_eq_getElem h1) (7 - i) (by omega)
    have b := h'.bit j _ (List.getElem?_eq_getElem h2) (7 - i) (by omega)
    rw [show 7 - (7 - i) = i by omega] at a b
    rw [a, b]
  · have a : d[j] < 2 ^ i := Nat.lt_of_lt_of_le (h.small _ (List.getElem_mem h1)) (by
      calc 256 = 2 ^ 8 := by decide
        _ ≤ 2 ^ i := Nat.pow_le_pow_right (by omega) (by omega))
    have b : d'[j] < 2 ^ i := Nat.lt_of_lt_of_le (h'.small _ (List.getElem_mem h2)) (by
      calc 256 = 2 ^ 8 := by decide
        _ ≤ 2 ^ i := Nat.pow_le_pow_right (by omega) (by omega))
    rw [Nat.testBit_lt_two_pow a, Nat.testBit_lt_two_pow b]

/-! Operations on bytes. -/
theorem and1 (a : Nat) (h : a < 18446744073709551616) : binV .and (.int .u64 a) (.int .u64 1) = some (.int .u64 ((a % 2 : Nat) : Int)) := by
  rw [binV_and, wrap_u64_eq]
  congr 2
  have : (BitVec.ofInt IntKind.u64.bits (a : Int) &&& BitVec.ofInt IntKind.u64.bits 1).toNat = a % 2 := by
    rw [BitVec.toNat_and]
    simp only [BitVec.toNat_ofInt, IntKind.bits]
    have : ((a : Int) % ((2 ^ 64 : Nat) : Int)).toNat = a := by
      rw [show ((2 ^ 64 : Nat) : Int) = 18446744073709551616 by decide]; omega
    rw [this, show ((1 : Int) % ((2 ^ 64 : Nat) : Int)).toNat = 1 by decide, Nat.and_one_is_mod]
  rw [this]; omega
theorem or8 (a c : Nat) (ha : a < 256) (hc : c < 256) : binV .or (.int .u8 a) (.int .u8 c) = some (.int .u8 ((a ||| c : Nat) : Int)) := by
  rw [binV_or, wrap_u8]
  congr 2
  have : (BitVec.ofInt IntKind.u8.bits (a : Int) ||| BitVec.ofInt IntKind.u8.bits (c : Int)).toNat = a ||| c := by
    rw [BitVec.toNat_or]
    simp only [BitVec.toNat_ofInt, IntKind.bits]
    have e1 : ((a : Int) % ((2 ^ 8 : Nat) : Int)).toNat = a := by
      rw [show ((2 ^ 8 : Nat) : Int) = 256 by decide]; omega
    have e2 : ((c : Int) % ((2 ^ 8 : Nat) : Int)).toNat = c := by
      rw [show ((2 ^ 8 : Nat) : Int) = 256 by decide]; omega
    rw [e1, e2]
  rw [this]
  have := Nat.or_lt_two_pow (n := 8) (x := a) (y := c) ha hc
  omega
theorem shl8 (b : Bool) (s : Nat) (hs : s ≤ 7) : binV .shl (.int .u8 (b.toNat : Nat)) (.int .i64 (s : Nat)) = some (.int .u8 ((b.toNat <<< s : Nat) : Int)) := by
  rw [binV_shl _ _ _ _ (by omega), wrap_u8]
  congr 2
  have h0 : min ((s : Int)).toNat IntKind.u8.bits = s := by simp [IntKind.bits]; omega
  rw [h0, Nat.shiftLeft_eq]
  have h1 : 2 ^ s ≤ 2 ^ 7 := Nat.pow_le_pow_right (by omega) hs
  have h2 : b.toNat ≤ 1 := by cases b <;> simp
  have h3 : b.toNat * 2 ^ s ≤ 1 * 2 ^ 7 := Nat.mul_le_mul h2 h1
  have : (((b.toNat * 2 ^ s : Nat)) : Int) = (b.toNat : Int) * 2 ^ s := by push_cast; rfl
  rw [← this]; omega
theorem testBit_mod (n i : Nat) : n / 2 ^ i % 2 = (n.testBit i).toNat := by
  rw [Nat.testBit_eq_decide_div_mod_eq]
  rcases Nat.mod_two_eq_zero_or_one (n / 2 ^ i) with h | h <;> simp [h]

end Go.Proofs.Ytlbhbjaimcinbaa.AI
