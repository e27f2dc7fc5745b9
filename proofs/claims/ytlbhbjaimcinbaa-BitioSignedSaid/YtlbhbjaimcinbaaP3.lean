/- What is written as bits is read as the same number. -/
import Derived.Test.YtlbhbjaimcinbaaR4
set_option linter.unusedSimpArgs false
namespace Go.Proofs.Ytlbhbjaimcinbaa.AI
open Go

theorem bitsOf_get : ∀ (w n i : Nat), i < w → (bitsOf w n)[i]? = some (n.testBit (w - 1 - i)) := by
  intro w
  induction w with
  | zero => intro n i h; omega
  | succ w ih =>
    intro n i h
    cases i with
    | zero => simp [bitsOf]
    | succ i =>
      simp only [bitsOf, List.getElem?_cons_succ]
      rw [ih n i (by omega)]
      congr 2; omega

theorem strOf_size (d : List Nat) : (strOf d).size = d.length := by
  show (d.map UInt8.ofNat).toArray.size = _
  simp
theorem sbit_of {bs : List Bool} {s : ByteArray} (h : IsStr bs s) {i : Nat} (hi : i < 8 * s.size) : sbit s i = bs.getD i false := by
  obtain ⟨d, hb, hd, rfl⟩ := h
  rw [strOf_size] at hi
  have hlt : i / 8 < d.length := by omega
  have h1 : (strOf d)[i / 8]? = some (UInt8.ofNat d[i / 8]) := by
    rw [getElem?_pos (strOf d) (i / 8) (by rw [strOf_size]; exact hlt)]
    show some ((d.map UInt8.ofNat).toArray[i / 8]'(by simpa using hlt)) = _
    simp
  have h2 := hb.small _ (List.getElem_mem hlt)
  have h3 := hb.bit (i / 8) _ (List.getElem?_eq_getElem hlt) (i % 8) (by omega)
  unfold sbit
  rw [h1]
  simp only [Option.map_some, Option.getD_some]
  rw [show (UInt8.ofNat d[i / 8]).toNat = d[i / 8] by rw [UInt8.toNat_ofNat']; omega, h3, show 8 * (i / 8) + i % 8 = i by omega]

theorem valOf_bits {s : ByteArray} {a w n : Nat} (h : ∀ i, i < w → sbit s (a + i) = n.testBit (w - 1 - i)) : ∀ j, j ≤ w → valOf s a j = n / 2 ^ (w - j) % 2 ^ j := by
  intro j
  induction j with
  | zero => intro _; simp [valOf, Nat.mod_one]
  | succ j ih =>
    intro hj
    rw [valOf, ih (by omega), h j (by omega), ← testBit_mod]
    have e1 : w - j = (w - (j + 1)) + 1 := by omega
    have e2 : w - 1 - j = w - (j + 1) := by omega
    rw [e1, e2, Nat.pow_succ, ← Nat.div_div_eq_div_mul]
    generalize n / 2 ^ (w - (j + 1)) = m
    rw [Nat.pow_succ, Nat.mul_comm (2 ^ j) 2, Nat.mod_mul]
    omega
theorem valOf_read {s : ByteArray} {bs : List Bool} (h : IsStr bs s) {a w n : Nat} (hlen : a + w ≤ 8 * s.size) (hbs : ∀ i, i < w → bs.getD (a + i) false = n.testBit (w - 1 - i)) : valOf s a w = n % 2 ^ w := by
  have := valOf_bits (s := s) (a := a) (w := w) (n := n) (fun i hi => by rw [sbit_of h (by omega), hbs i hi]) w (Nat.le_refl _)
  simpa using this
theorem bitsOf_mod (w n m : Nat) (h : n % 2 ^ w = m % 2 ^ w) : bitsOf w n = bitsOf w m := by
  apply List.ext_getElem?
  intro i
  by_cases hi : i < w
  · rw [bitsOf_get _ _ _ hi, bitsOf_get _ _ _ hi]
    congr 1
    have h1 := Nat.testBit_mod_two_pow n w (w - 1 - i)
    have h2 := Nat.testBit_mod_two_pow m w (w - 1 - i)
    rw [h] at h1
    rw [h1] at h2
    have : decide (w - 1 - i < w) = true := by simp; omega
    rw [this] at h2
    simpa using h2
  · rw [List.getElem?_eq_none (by rw [bitsOf_length]; omega), List.getElem?_eq_none (by rw [bitsOf_length]; omega)]

end Go.Proofs.Ytlbhbjaimcinbaa.AI
