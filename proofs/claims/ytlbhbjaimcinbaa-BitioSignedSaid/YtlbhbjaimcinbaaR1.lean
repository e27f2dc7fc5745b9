/- The reader's memory, and bits read from it. -/
import Derived.Test.YtlbhbjaimcinbaaW1
set_option linter.unusedSimpArgs false
namespace Go.Proofs.Ytlbhbjaimcinbaa.AI
open Go

structure RS where
  s : ByteArray
  at_ : Nat
  err : Int
def RS.cells (r : RS) : List Value := [.string r.s, .int .i64 (r.at_ : Int), .int .i64 r.err]
def RSt (H : Heap) (p : Nat) (r : RS) : Prop := hget H p = some ⟨true, r.cells⟩
def setR (H : Heap) (p : Nat) (r : RS) : Heap := H.set p (some ⟨true, r.cells⟩)
theorem RSt.lt {H : Heap} {p : Nat} {r : RS} (h : RSt H p r) : p < H.length := hget_lt h
theorem setR_length (H : Heap) (p : Nat) (r : RS) : (setR H p r).length = H.length := by simp [setR]
theorem setR_st {H : Heap} {p : Nat} (h : p < H.length) (r : RS) : RSt (setR H p r) p r := hget_set_self h
theorem setR_setR (H : Heap) (p : Nat) (r r' : RS) : setR (setR H p r) p r' = setR H p r' := by simp [setR, List.set_set]
theorem setR_same {H : Heap} {p : Nat} {r : RS} (h : RSt H p r) : setR H p r = H := by
  unfold setR
  unfold RSt hget at h
  cases hp : H[p]? with
  | none => rw [hp] at h; simp at h
  | some x =>
    rw [hp] at h
    simp at h
    subst h
    obtain ⟨hl, he⟩ := List.getElem?_eq_some_iff.1 hp
    rw [← he]; simp
theorem setR_frm (H : Heap) (p : Nat) (r : RS) : Frm [p] H (setR H p r) := (Frm.refl _ _).set _ (by simp)
theorem hget_setR_ne {H : Heap} {p i : Nat} {r : RS} (h : i ≠ p) : hget (setR H p r) i = hget H i := hget_set_ne (Ne.symm h)

/-- A string's bit. -/
def sbit (s : ByteArray) (i : Nat) : Bool := (((s[i / 8]?).map UInt8.toNat).getD 0).testBit (7 - i % 8)
/-- The number that some bits make, the first the highest. -/
def valOf (s : ByteArray) (a : Nat) : Nat → Nat
  | 0 => 0
  | w + 1 => 2 * valOf s a w + (sbit s (a + w)).toNat
theorem valOf_lt (s : ByteArray) (a w : Nat) : valOf s a w < 2 ^ w := by
  induction w with
  | zero => simp [valOf]
  | succ w ih =>
    have : (sbit s (a + w)).toNat ≤ 1 := by cases sbit s (a + w) <;> simp
    rw [valOf, Nat.pow_succ]; omega

theorem shl64_1 (n : Nat) (h : 2 * n < 18446744073709551616) : binV .shl (.int .u64 (n : Int)) (.int .u64 1) = some (.int .u64 ((2 * n : Nat) : Int)) := by
  rw [binV_shl _ _ _ _ (by omega), wrap_u64 (by have : (2 : Int) ^ min (Int.toNat 1) IntKind.u64.bits = 2 := by rfl
                                                rw [this]; omega) (by have : (2 : Int) ^ min (Int.toNat 1) IntKind.u64.bits = 2 := by rfl
                                                                      rw [this]; omega)]
  have : (2 : Int) ^ min (Int.toNat 1) IntKind.u64.bits = 2 := by rfl
  rw [this]; congr 2; omega
theorem shr8 (a s : Nat) (hs : s ≤ 7) : binV .shr (.int .u8 (a : Int)) (.int .i64 (s : Int)) = some (.int .u8 ((a / 2 ^ s : Nat) : Int)) := by
  rw [binV_shr _ _ _ _ (by omega), shr_nat .u8 a s (by simp [IntKind.bits]; omega)]
theorem and8_1 (a : Nat) (h : a < 256) : binV .and (.int .u8 (a : Int)) (.int .u8 1) = some (.int .u8 ((a % 2 : Nat) : Int)) := by
  rw [binV_and, wrap_u8]
  congr 2
  have : (BitVec.ofInt IntKind.u8.bits (a : Int) &&& BitVec.ofInt IntKind.u8.bits 1).toNat = a % 2 := by
    rw [BitVec.toNat_and]
    simp only [BitVec.toNat_ofInt, IntKind.bits]
    have : ((a : Int) % ((2 ^ 8 : Nat) : Int)).toNat = a := by
      rw [show ((2 ^ 8 : Nat) : Int) = 256 by decide]; omega
    rw [this, show ((1 : Int) % ((2 ^ 8 : Nat) : Int)).toNat = 1 by decide, Nat.and_one_is_mod]
  rw [this]; omega
theorem or64 (n : Nat) (b : Bool) (h : 2 * n < 18446744073709551615) : binV .or (.int .u64 ((2 * n : Nat) : Int)) (.int .u64 (b.toNat : Int)) = some (.int .u64 ((2 * n + b.toNat : Nat) : Int)) := by
  have hb : b.toNat ≤ 1 := by cases b <;> simp
  rw [binV_or, wrap_u64_eq]
  congr 2
  have : (BitVec.ofInt IntKind.u64.bits ((2 * n : Nat) : Int) ||| BitVec.ofInt IntKind.u64.bits (b.toNat : Int)).toNat = 2 * n + b.toNat := by
    rw [BitVec.toNat_or]
    simp only [BitVec.toNat_ofInt, IntKind.bits]
    have e1 : (((2 * n : Nat) : Int) % ((2 ^ 64 : Nat) : Int)).toNat = 2 * n := by
      rw [show ((2 ^ 64 : Nat) : Int) = 18446744073709551616 by decide]; omega
    have e2 : ((b.toNat : Int) % ((2 ^ 64 : Nat) : Int)).toNat = b.toNat := by
      rw [show ((2 ^ 64 : Nat) : Int) = 18446744073709551616 by decide]; omega
    rw [e1, e2]
    have := Nat.two_pow_add_eq_or_of_lt (i := 1) (b := b.toNat) (by omega) n
    simpa using this.symm
  rw [this]; omega
theorem wrap_bit64 (b : Bool) : IntKind.u64.wrap ((b.toNat : Nat) : Int) = ((b.toNat : Nat) : Int) := by cases b <;> rfl
theorem str_get (t : ByteArray) (i : Nat) (h : i < t.size) : ∃ b : UInt8, t[i]? = some b := ⟨t[i], getElem?_pos t i h⟩

/-- Some bits are read. -/
theorem get_spec {H : Heap} {p : Nat} {r : RS} {w : Nat} (h : RSt H p r) (hw : w ≤ 63) (ha : r.at_ + w ≤ 8 * r.s.size) (hs : r.s.size ≤ 1000000) :
    AC tbl 48 [.pointer (some ⟨p, 0, none⟩), .int .i64 (w : Int)] H = some (.int .u64 (valOf r.s r.at_ w : Nat), setR H p { r with at_ := r.at_ + w }) := by
  apply AC_eq
  apply AC_wp (F := F48) rfl (by simp [F48]) (.inl rfl)
  have hpl := h.lt
  simp only [F48, ↓RW_seq, ↓AW_ret, ↓AW_skip, ↓AW_exit, ↓AW_block, ↓RW_cond, ↓RW_reg, ↓RW_regd, ↓RO_op, ↓RO_t, ↓RO_f, ↓RO_nt, ↓RO_nf, ↓AO_nil, ↓RD_op, ↓RD_t, ↓RD_f, ↓RD_nt, ↓RD_fe, ↓RD_nte, ↓RD_nf, ↓AOD_nil, CDops_eff, CDops_no, CDops_1, CDops_2, Again_nil, Again_cons, Same1_int, Same1_bool, Same1_str, Same1_ptr, Same1_slice, Same1_nil, CSeq_ap, CReg_ap, COps_ap, Then_normal, Then_ret, Then_exit, InBlock_normal, InBlock_ret, InBlock_self, InBlock_exit, Ends_ret, Ends_normal, ares, tup, finO_some, fin_same, fin_false, argsE, dval, aop, ev, evs, evo, evp, fillL, addrOf, intOf?, lk_put, lk_none, lk_cons, lk_nil, keep_nil, keep_cons, Op1_some, Option.map_some, Option.bind_some, reduceIte, Nat.reduceEqDiff, binV_lss, binV_leq, binV_gtr, binV_geq, binV_eql, binV_neq, binV_add, binV_sub, binV_mul, un_not, CondA_false, CondA_true, Bool.not_true, Bool.not_false, reduceCtorEq, decide_true, decide_false, Nat.add_zero, Nat.zero_add, Nat.reduceAdd, Nat.reduceMul, Bool.bne_false, Bool.bne_true, eqPtr, Option.isNone_some, Option.isNone_none, List.getElem?_cons_zero, List.getElem?_cons_succ, Option.isSome_none, Option.isSome_some ]
  apply AW_loop_inv (fun j e H1 => j ≤ w ∧ e = [(0, .pointer (some ⟨p, 0, none⟩)), (5, .int .u64 (valOf r.s r.at_ (w - j) : Nat)), (6, .int .i64 (w : Int)), (7, .int .i64 ((w - j : Nat) : Int))] ∧ H1 = setR H p { r with at_ := r.at_ + (w - j) }) _ w
  · refine ⟨Nat.le_refl _, by rw [Nat.sub_self]; rfl, ?_⟩
    rw [Nat.sub_self]; exact (setR_same h).symm
  · rintro j e H1 ⟨hj, rfl, rfl⟩
    cases j with
    | zero =>
      have g0 : ¬ (w : Int) < (w : Int) := by omega
      simp only [↓RW_seq, ↓AW_ret, ↓AW_skip, ↓AW_exit, ↓AW_block, ↓RW_cond, ↓RW_reg, ↓RW_regd, ↓RO_op, ↓RO_t, ↓RO_f, ↓RO_nt, ↓RO_nf, ↓AO_nil, ↓RD_op, ↓RD_t, ↓RD_f, ↓RD_nt, ↓RD_fe, ↓RD_nte, ↓RD_nf, ↓AOD_nil, CDops_eff, CDops_no, CDops_1, CDops_2, Again_nil, Again_cons, Same1_int, Same1_bool, Same1_str, Same1_ptr, Same1_slice, Same1_nil, CSeq_ap, CReg_ap, COps_ap, Then_normal, Then_ret, Then_exit, InBlock_normal, InBlock_ret, InBlock_self, InBlock_exit, Ends_ret, Ends_normal, ares, tup, finO_some, fin_same, fin_false, argsE, dval, aop, ev, evs, evo, evp, fillL, addrOf, intOf?, lk_put, lk_none, lk_cons, lk_nil, keep_nil, keep_cons, Op1_some, Option.map_some, Option.bind_some, reduceIte, Nat.reduceEqDiff, binV_lss, binV_leq, binV_gtr, binV_geq, binV_eql, binV_neq, binV_add, binV_sub, binV_mul, un_not, CondA_false, CondA_true, Bool.not_true, Bool.not_false, reduceCtorEq, decide_true, decide_false, Nat.add_zero, Nat.zero_add, Nat.reduceAdd, Nat.reduceMul, Bool.bne_false, Bool.bne_true, eqPtr, Option.isNone_some, Option.isNone_none, List.getElem?_cons_zero, List.getElem?_cons_succ, Option.isSome_none, Option.isSome_some , g0, Nat.sub_zero, and_self]
    | succ j =>
      have g0 : ((w - (j + 1) : Nat) : Int) < (w : Int) := by omega
      have hst : hget (setR H p { r with at_ := r.at_ + (w - (j + 1)) }) p = some ⟨true, [.string r.s, .int .i64 ((r.at_ + (w - (j + 1)) : Nat) : Int), .int .i64 r.err]⟩ := setR_st hpl _
      have hv := valOf_lt r.s r.at_ (w - (j + 1))
      have hv2 : 2 ^ (w - (j + 1)) ≤ 2 ^ 62 := Nat.pow_le_pow_right (by omega) (by omega)
      have hv3 : 2 * valOf r.s r.at_ (w - (j + 1)) < 9223372036854775808 := by
        have : (2 : Nat) ^ 62 = 4611686018427387904 := by decide
        omega
      obtain ⟨b, hb⟩ := str_get r.s ((r.at_ + (w - (j + 1))) / 8) (by omega)
      have hb8 : b.toNat < 256 := b.toNat_lt
      have hbit : b.toNat / 2 ^ (7 - (r.at_ + (w - (j + 1))) % 8) % 2 = (sbit r.s (r.at_ + (w - (j + 1)))).toNat := by
        rw [testBit_mod]; unfold sbit; rw [hb]; rfl
      have hdiv : b.toNat / 2 ^ (7 - (r.at_ + (w - (j + 1))) % 8) < 256 := Nat.lt_of_le_of_lt (Nat.div_le_self _ _) hb8
      have g1 : (0 : Int) ≤ (((r.at_ + (w - (j + 1))) / 8 : Nat) : Int) := by omega
      have g2 : IntKind.i64.wrap (((r.at_ + (w - (j + 1)) : Nat) : Int) + 1) = ((r.at_ + (w - j) : Nat) : Int) := by rw [wrap_i64 (by omega) (by omega)]; omega
      have g3 : IntKind.i64.wrap (((w - (j + 1) : Nat) : Int) + 1) = ((w - j : Nat) : Int) := by rw [wrap_i64 (by omega) (by omega)]; omega
      simp only [↓RW_seq, ↓AW_ret, ↓AW_skip, ↓AW_exit, ↓AW_block, ↓RW_cond, ↓RW_reg, ↓RW_regd, ↓RO_op, ↓RO_t, ↓RO_f, ↓RO_nt, ↓RO_nf, ↓AO_nil, ↓RD_op, ↓RD_t, ↓RD_f, ↓RD_nt, ↓RD_fe, ↓RD_nte, ↓RD_nf, ↓AOD_nil, CDops_eff, CDops_no, CDops_1, CDops_2, Again_nil, Again_cons, Same1_int, Same1_bool, Same1_str, Same1_ptr, Same1_slice, Same1_nil, CSeq_ap, CReg_ap, COps_ap, Then_normal, Then_ret, Then_exit, InBlock_normal, InBlock_ret, InBlock_self, InBlock_exit, Ends_ret, Ends_normal, ares, tup, finO_some, fin_same, fin_false, argsE, dval, aop, ev, evs, evo, evp, fillL, addrOf, intOf?, lk_put, lk_none, lk_cons, lk_nil, keep_nil, keep_cons, Op1_some, Option.map_some, Option.bind_some, reduceIte, Nat.reduceEqDiff, binV_lss, binV_leq, binV_gtr, binV_geq, binV_eql, binV_neq, binV_add, binV_sub, binV_mul, un_not, CondA_false, CondA_true, Bool.not_true, Bool.not_false, reduceCtorEq, decide_true, decide_false, Nat.add_zero, Nat.zero_add, Nat.reduceAdd, Nat.reduceMul, Bool.bne_false, Bool.bne_true, eqPtr, Option.isNone_some, Option.isNone_none, List.getElem?_cons_zero, List.getElem?_cons_succ, Option.isSome_none, Option.isSome_some , hload, hstore, List.length_cons, List.length_nil, Nat.reduceAdd, Nat.reduceLeDiff, decide_true, List.all_cons, List.all_nil, one, Bool.and_true, Bool.true_and, Bool.and_self, splice, List.set_cons_zero, List.set_cons_succ, List.getElem?_cons_zero, List.getElem?_cons_succ, vc_int, vc_slice, vc_str, vc_bool, vc_int', vc_slice', vc_str', vc_bool', List.length_set, List.length_append, Nat.lt_irrefl, Nat.lt_add_one, and_self, true_and, and_true, lenV, cellsOfSlice, Nat.le_refl, if_true , g0, hst, shl64_1 _ (by omega : 2 * valOf r.s r.at_ (w - (j + 1)) < 18446744073709551616), quo8 _ (by omega : r.at_ + (w - (j + 1)) < 9223372036854775808), rem8, g1, Int.toNat_natCast, hb,
        sub7 _ (by omega : (r.at_ + (w - (j + 1))) % 8 ≤ 7), shr8 _ _ (by omega : 7 - (r.at_ + (w - (j + 1))) % 8 ≤ 7), and8_1 _ hdiv, hbit, wrap_bit64, or64 _ _ (by omega : 2 * valOf r.s r.at_ (w - (j + 1)) < 18446744073709551615), g2, g3]
      refine ⟨j, by omega, by omega, ?_, ?_⟩
      · rw [show w - j = (w - (j + 1)) + 1 by omega, valOf]
      · show List.set (setR H p _) p _ = _
        exact setR_setR H p _ { r with at_ := r.at_ + (w - j) }

end Go.Proofs.Ytlbhbjaimcinbaa.AI
