/- What the small functions of the writer and the reader come to. -/
import Derived.Test.YtlbhbjaimcinbaaP1
set_option linter.unusedSimpArgs false
namespace Go.Proofs.Ytlbhbjaimcinbaa.AI
open Go

theorem shr64 (a s : Nat) (hs : s ≤ 64) : binV .shr (.int .u64 a) (.int .u64 s) = some (.int .u64 ((a / 2 ^ s : Nat) : Int)) := by
  rw [binV_shr _ _ _ _ (by omega), shr_nat .u64 a s hs]
theorem shr64_32 (a : Nat) : binV .shr (.int .u64 a) (.int .u64 32) = some (.int .u64 ((a / 2 ^ 32 : Nat) : Int)) := shr64 a 32 (by decide)
theorem shr64_16 (a : Nat) : binV .shr (.int .u64 a) (.int .u64 16) = some (.int .u64 ((a / 2 ^ 16 : Nat) : Int)) := shr64 a 16 (by decide)
theorem shr64_8 (a : Nat) : binV .shr (.int .u64 a) (.int .u64 8) = some (.int .u64 ((a / 2 ^ 8 : Nat) : Int)) := shr64 a 8 (by decide)

theorem wrap_small (n : Nat) (h : n < 256) : IntKind.u8.wrap (n : Int) = n := by rw [wrap_u8]; omega
theorem wrap_len (n : Nat) (h : n < 1000) : IntKind.i64.wrap (n : Int) = n := wrap_i64 (by omega) (by omega)
theorem wrap_sum (c n : Nat) (h : c + n < 1000) : IntKind.i64.wrap ((c : Int) + (n : Int)) = ((c + n : Nat) : Int) := by rw [wrap_i64 (by omega) (by omega)]; rfl

theorem wrap_lit (c : Nat) (h : c < 1000) : IntKind.i64.wrap (c : Int) = c := wrap_len c h
theorem w0 (n : Nat) (h : n < 1000) : IntKind.i64.wrap ((0 : Int) + (n : Int)) = ((n : Nat) : Int) := by rw [wrap_i64 (by omega) (by omega)]; omega
theorem wc (c n : Nat) (h : c + n < 1000) : IntKind.i64.wrap ((c : Int) + (n : Int)) = ((c + n : Nat) : Int) := wrap_sum c n h

theorem len64 (n : Nat) (h : n < 18446744073709551616) : AC tbl 61 [.int .u64 n] [] = some (.int .i64 (blen n), []) := by
  apply AC_eq
  apply AC_wp (F := F61) rfl (by simp [F61]) (.inr rfl)
  have g1 : IntKind.i64.wrap (32 + 16) = 48 := by decide
  have g2 : IntKind.i64.wrap (32 + 8) = 40 := by decide
  have g3 : IntKind.i64.wrap (48 + 8) = 56 := by decide
  have g4 : IntKind.i64.wrap (0 + 16) = 16 := by decide
  have g5 : IntKind.i64.wrap (16 + 8) = 24 := by decide
  have g6 : IntKind.i64.wrap (0 + 8) = 8 := by decide
  by_cases h0 : (4294967296 : Int) ≤ (n : Nat)
  · have b0 : blen (n) = 32 + blen (n / 2 ^ 32) := blen_shift (by omega)
    by_cases h1 : (65536 : Int) ≤ (n / 2 ^ 32 : Nat)
    · have b1 : blen (n / 2 ^ 32) = 16 + blen (n / 2 ^ 32 / 2 ^ 16) := blen_shift (by omega)
      by_cases h2 : (256 : Int) ≤ (n / 2 ^ 32 / 2 ^ 16 : Nat)
      · have b2 : blen (n / 2 ^ 32 / 2 ^ 16) = 8 + blen (n / 2 ^ 32 / 2 ^ 16 / 2 ^ 8) := blen_shift (by omega)
        have hm : n / 2 ^ 32 / 2 ^ 16 / 2 ^ 8 < 256 := by omega
        have hb : blen (n / 2 ^ 32 / 2 ^ 16 / 2 ^ 8) ≤ 8 := blen_le.2 hm
        have hs : IntKind.i64.wrap ((56 : Int) + ((blen (n / 2 ^ 32 / 2 ^ 16 / 2 ^ 8) : Nat) : Int)) = (blen n : Int) := by rw [wrap_i64 (by omega) (by omega)]; omega
        simp only [F61, ↓RW_seq, ↓AW_ret, ↓AW_skip, ↓AW_exit, ↓AW_block, ↓RW_cond, ↓RW_reg, ↓RW_regd, ↓RO_op, ↓RO_t, ↓RO_f, ↓RO_nt, ↓RO_nf, ↓AO_nil, ↓RD_op, ↓RD_t, ↓RD_f, ↓RD_nt, ↓RD_fe, ↓RD_nte, ↓RD_nf, ↓AOD_nil, CDops_eff, CDops_no, CDops_1, CDops_2, Again_nil, Again_cons, Same1_int, Same1_bool, Same1_str, Same1_ptr, Same1_slice, Same1_nil, CSeq_ap, CReg_ap, COps_ap, Then_normal, Then_ret, Then_exit, InBlock_normal, InBlock_ret, InBlock_self, InBlock_exit, Ends_ret, Ends_normal, ares, tup, finO_some, fin_same, fin_false, argsE, dval, aop, ev, evs, evo, evp, fillL, addrOf, intOf?, lk_put, lk_none, lk_cons, lk_nil, keep_nil, keep_cons, Op1_some, Option.map_some, Option.bind_some, reduceIte, Nat.reduceEqDiff, binV_lss, binV_leq, binV_gtr, binV_geq, binV_eql, binV_neq, binV_add, binV_sub, binV_mul, un_not, CondA_false, CondA_true, Bool.not_true, Bool.not_false, reduceCtorEq, decide_true, decide_false, Nat.add_zero, Nat.zero_add, Nat.reduceAdd, Nat.reduceMul , h0, h1, h2, shr64_32, shr64_16, shr64_8, wrap_small _ hm, Int.toNat_natCast, lenTab _ hm, Int.natCast_nonneg, lenTab_nat _ hm, wrap_len (blen (n / 2 ^ 32 / 2 ^ 16 / 2 ^ 8)) (by omega), g1, g2, g3, g4, g5, g6, hs, and_self]
      · have hm : n / 2 ^ 32 / 2 ^ 16 < 256 := by omega
        have hb : blen (n / 2 ^ 32 / 2 ^ 16) ≤ 8 := blen_le.2 hm
        have hs : IntKind.i64.wrap ((48 : Int) + ((blen (n / 2 ^ 32 / 2 ^ 16) : Nat) : Int)) = (blen n : Int) := by rw [wrap_i64 (by omega) (by omega)]; omega
        simp only [F61, ↓RW_seq, ↓AW_ret, ↓AW_skip, ↓AW_exit, ↓AW_block, ↓RW_cond, ↓RW_reg, ↓RW_regd, ↓RO_op, ↓RO_t, ↓RO_f, ↓RO_nt, ↓RO_nf, ↓AO_nil, ↓RD_op, ↓RD_t, ↓RD_f, ↓RD_nt, ↓RD_fe, ↓RD_nte, ↓RD_nf, ↓AOD_nil, CDops_eff, CDops_no, CDops_1, CDops_2, Again_nil, Again_cons, Same1_int, Same1_bool, Same1_str, Same1_ptr, Same1_slice, Same1_nil, CSeq_ap, CReg_ap, COps_ap, Then_normal, Then_ret, Then_exit, InBlock_normal, InBlock_ret, InBlock_self, InBlock_exit, Ends_ret, Ends_normal, ares, tup, finO_some, fin_same, fin_false, argsE, dval, aop, ev, evs, evo, evp, fillL, addrOf, intOf?, lk_put, lk_none, lk_cons, lk_nil, keep_nil, keep_cons, Op1_some, Option.map_some, Option.bind_some, reduceIte, Nat.reduceEqDiff, binV_lss, binV_leq, binV_gtr, binV_geq, binV_eql, binV_neq, binV_add, binV_sub, binV_mul, un_not, CondA_false, CondA_true, Bool.not_true, Bool.not_false, reduceCtorEq, decide_true, decide_false, Nat.add_zero, Nat.zero_add, Nat.reduceAdd, Nat.reduceMul , h0, h1, h2, shr64_32, shr64_16, shr64_8, wrap_small _ hm, Int.toNat_natCast, lenTab _ hm, Int.natCast_nonneg, lenTab_nat _ hm, wrap_len (blen (n / 2 ^ 32 / 2 ^ 16)) (by omega), g1, g2, g3, g4, g5, g6, hs, and_self]
    · by_cases h2 : (256 : Int) ≤ (n / 2 ^ 32 : Nat)
      · have b2 : blen (n / 2 ^ 32) = 8 + blen (n / 2 ^ 32 / 2 ^ 8) := blen_shift (by omega)
        have hm : n / 2 ^ 32 / 2 ^ 8 < 256 := by omega
        have hb : blen (n / 2 ^ 32 / 2 ^ 8) ≤ 8 := blen_le.2 hm
        have hs : IntKind.i64.wrap ((40 : Int) + ((blen (n / 2 ^ 32 / 2 ^ 8) : Nat) : Int)) = (blen n : Int) := by rw [wrap_i64 (by omega) (by omega)]; omega
        simp only [F61, ↓RW_seq, ↓AW_ret, ↓AW_skip, ↓AW_exit, ↓AW_block, ↓RW_cond, ↓RW_reg, ↓RW_regd, ↓RO_op, ↓RO_t, ↓RO_f, ↓RO_nt, ↓RO_nf, ↓AO_nil, ↓RD_op, ↓RD_t, ↓RD_f, ↓RD_nt, ↓RD_fe, ↓RD_nte, ↓RD_nf, ↓AOD_nil, CDops_eff, CDops_no, CDops_1, CDops_2, Again_nil, Again_cons, Same1_int, Same1_bool, Same1_str, Same1_ptr, Same1_slice, Same1_nil, CSeq_ap, CReg_ap, COps_ap, Then_normal, Then_ret, Then_exit, InBlock_normal, InBlock_ret, InBlock_self, InBlock_exit, Ends_ret, Ends_normal, ares, tup, finO_some, fin_same, fin_false, argsE, dval, aop, ev, evs, evo, evp, fillL, addrOf, intOf?, lk_put, lk_none, lk_cons, lk_nil, keep_nil, keep_cons, Op1_some, Option.map_some, Option.bind_some, reduceIte, Nat.reduceEqDiff, binV_lss, binV_leq, binV_gtr, binV_geq, binV_eql, binV_neq, binV_add, binV_sub, binV_mul, un_not, CondA_false, CondA_true, Bool.not_true, Bool.not_false, reduceCtorEq, decide_true, decide_false, Nat.add_zero, Nat.zero_add, Nat.reduceAdd, Nat.reduceMul , h0, h1, h2, shr64_32, shr64_16, shr64_8, wrap_small _ hm, Int.toNat_natCast, lenTab _ hm, Int.natCast_nonneg, lenTab_nat _ hm, wrap_len (blen (n / 2 ^ 32 / 2 ^ 8)) (by omega), g1, g2, g3, g4, g5, g6, hs, and_self]
      · have hm : n / 2 ^ 32 < 256 := by omega
        have hb : blen (n / 2 ^ 32) ≤ 8 := blen_le.2 hm
        have hs : IntKind.i64.wrap ((32 : Int) + ((blen (n / 2 ^ 32) : Nat) : Int)) = (blen n : Int) := by rw [wrap_i64 (by omega) (by omega)]; omega
        simp only [F61, ↓RW_seq, ↓AW_ret, ↓AW_skip, ↓AW_exit, ↓AW_block, ↓RW_cond, ↓RW_reg, ↓RW_regd, ↓RO_op, ↓RO_t, ↓RO_f, ↓RO_nt, ↓RO_nf, ↓AO_nil, ↓RD_op, ↓RD_t, ↓RD_f, ↓RD_nt, ↓RD_fe, ↓RD_nte, ↓RD_nf, ↓AOD_nil, CDops_eff, CDops_no, CDops_1, CDops_2, Again_nil, Again_cons, Same1_int, Same1_bool, Same1_str, Same1_ptr, Same1_slice, Same1_nil, CSeq_ap, CReg_ap, COps_ap, Then_normal, Then_ret, Then_exit, InBlock_normal, InBlock_ret, InBlock_self, InBlock_exit, Ends_ret, Ends_normal, ares, tup, finO_some, fin_same, fin_false, argsE, dval, aop, ev, evs, evo, evp, fillL, addrOf, intOf?, lk_put, lk_none, lk_cons, lk_nil, keep_nil, keep_cons, Op1_some, Option.map_some, Option.bind_some, reduceIte, Nat.reduceEqDiff, binV_lss, binV_leq, binV_gtr, binV_geq, binV_eql, binV_neq, binV_add, binV_sub, binV_mul, un_not, CondA_false, CondA_true, Bool.not_true, Bool.not_false, reduceCtorEq, decide_true, decide_false, Nat.add_zero, Nat.zero_add, Nat.reduceAdd, Nat.reduceMul , h0, h1, h2, shr64_32, shr64_16, shr64_8, wrap_small _ hm, Int.toNat_natCast, lenTab _ hm, Int.natCast_nonneg, lenTab_nat _ hm, wrap_len (blen (n / 2 ^ 32)) (by omega), g1, g2, g3, g4, g5, g6, hs, and_self]
  · by_cases h1 : (65536 : Int) ≤ (n : Nat)
    · have b1 : blen (n) = 16 + blen (n / 2 ^ 16) := blen_shift (by omega)
      by_cases h2 : (256 : Int) ≤ (n / 2 ^ 16 : Nat)
      · have b2 : blen (n / 2 ^ 16) = 8 + blen (n / 2 ^ 16 / 2 ^ 8) := blen_shift (by omega)
        have hm : n / 2 ^ 16 / 2 ^ 8 < 256 := by omega
        have hb : blen (n / 2 ^ 16 / 2 ^ 8) ≤ 8 := blen_le.2 hm
        have hs : IntKind.i64.wrap ((24 : Int) + ((blen (n / 2 ^ 16 / 2 ^ 8) : Nat) : Int)) = (blen n : Int) := by rw [wrap_i64 (by omega) (by omega)]; omega
        simp only [F61, ↓RW_seq, ↓AW_ret, ↓AW_skip, ↓AW_exit, ↓AW_block, ↓RW_cond, ↓RW_reg, ↓RW_regd, ↓RO_op, ↓RO_t, ↓RO_f, ↓RO_nt, ↓RO_nf, ↓AO_nil, ↓RD_op, ↓RD_t, ↓RD_f, ↓RD_nt, ↓RD_fe, ↓RD_nte, ↓RD_nf, ↓AOD_nil, CDops_eff, CDops_no, CDops_1, CDops_2, Again_nil, Again_cons, Same1_int, Same1_bool, Same1_str, Same1_ptr, Same1_slice, Same1_nil, CSeq_ap, CReg_ap, COps_ap, Then_normal, Then_ret, Then_exit, InBlock_normal, InBlock_ret, InBlock_self, InBlock_exit, Ends_ret, Ends_normal, ares, tup, finO_some, fin_same, fin_false, argsE, dval, aop, ev, evs, evo, evp, fillL, addrOf, intOf?, lk_put, lk_none, lk_cons, lk_nil, keep_nil, keep_cons, Op1_some, Option.map_some, Option.bind_some, reduceIte, Nat.reduceEqDiff, binV_lss, binV_leq, binV_gtr, binV_geq, binV_eql, binV_neq, binV_add, binV_sub, binV_mul, un_not, CondA_false, CondA_true, Bool.not_true, Bool.not_false, reduceCtorEq, decide_true, decide_false, Nat.add_zero, Nat.zero_add, Nat.reduceAdd, Nat.reduceMul , h0, h1, h2, shr64_32, shr64_16, shr64_8, wrap_small _ hm, Int.toNat_natCast, lenTab _ hm, Int.natCast_nonneg, lenTab_nat _ hm, wrap_len (blen (n / 2 ^ 16 / 2 ^ 8)) (by omega), g1, g2, g3, g4, g5, g6, hs, and_self]
      · have hm : n / 2 ^ 16 < 256 := by omega
        have hb : blen (n / 2 ^ 16) ≤ 8 := blen_le.2 hm
        have hs : IntKind.i64.wrap ((16 : Int) + ((blen (n / 2 ^ 16) : Nat) : Int)) = (blen n : Int) := by rw [wrap_i64 (by omega) (by omega)]; omega
        simp only [F61, ↓RW_seq, ↓AW_ret, ↓AW_skip, ↓AW_exit, ↓AW_block, ↓RW_cond, ↓RW_reg, ↓RW_regd, ↓RO_op, ↓RO_t, ↓RO_f, ↓RO_nt, ↓RO_nf, ↓AO_nil, ↓RD_op, ↓RD_t, ↓RD_f, ↓RD_nt, ↓RD_fe, ↓RD_nte, ↓RD_nf, ↓AOD_nil, CDops_eff, CDops_no, CDops_1, CDops_2, Again_nil, Again_cons, Same1_int, Same1_bool, Same1_str, Same1_ptr, Same1_slice, Same1_nil, CSeq_ap, CReg_ap, COps_ap, Then_normal, Then_ret, Then_exit, InBlock_normal, InBlock_ret, InBlock_self, InBlock_exit, Ends_ret, Ends_normal, ares, tup, finO_some, fin_same, fin_false, argsE, dval, aop, ev, evs, evo, evp, fillL, addrOf, intOf?, lk_put, lk_none, lk_cons, lk_nil, keep_nil, keep_cons, Op1_some, Option.map_some, Option.bind_some, reduceIte, Nat.reduceEqDiff, binV_lss, binV_leq, binV_gtr, binV_geq, binV_eql, binV_neq, binV_add, binV_sub, binV_mul, un_not, CondA_false, CondA_true, Bool.not_true, Bool.not_false, reduceCtorEq, decide_true, decide_false, Nat.add_zero, Nat.zero_add, Nat.reduceAdd, Nat.reduceMul , h0, h1, h2, shr64_32, shr64_16, shr64_8, wrap_small _ hm, Int.toNat_natCast, lenTab _ hm, Int.natCast_nonneg, lenTab_nat _ hm, wrap_len (blen (n / 2 ^ 16)) (by omega), g1, g2, g3, g4, g5, g6, hs, and_self]
    · by_cases h2 : (256 : Int) ≤ (n : Nat)
      · have b2 : blen (n) = 8 + blen (n / 2 ^ 8) := blen_shift (by omega)
        have hm : n / 2 ^ 8 < 256 := by omega
        have hb : blen (n / 2 ^ 8) ≤ 8 := blen_le.2 hm
        have hs : IntKind.i64.wrap ((8 : Int) + ((blen (n / 2 ^ 8) : Nat) : Int)) = (blen n : Int) := by rw [wrap_i64 (by omega) (by omega)]; omega
        simp only [F61, ↓RW_seq, ↓AW_ret, ↓AW_skip, ↓AW_exit, ↓AW_block, ↓RW_cond, ↓RW_reg, ↓RW_regd, ↓RO_op, ↓RO_t, ↓RO_f, ↓RO_nt, ↓RO_nf, ↓AO_nil, ↓RD_op, ↓RD_t, ↓RD_f, ↓RD_nt, ↓RD_fe, ↓RD_nte, ↓RD_nf, ↓AOD_nil, CDops_eff, CDops_no, CDops_1, CDops_2, Again_nil, Again_cons, Same1_int, Same1_bool, Same1_str, Same1_ptr, Same1_slice, Same1_nil, CSeq_ap, CReg_ap, COps_ap, Then_normal, Then_ret, Then_exit, InBlock_normal, InBlock_ret, InBlock_self, InBlock_exit, Ends_ret, Ends_normal, ares, tup, finO_some, fin_same, fin_false, argsE, dval, aop, ev, evs, evo, evp, fillL, addrOf, intOf?, lk_put, lk_none, lk_cons, lk_nil, keep_nil, keep_cons, Op1_some, Option.map_some, Option.bind_some, reduceIte, Nat.reduceEqDiff, binV_lss, binV_leq, binV_gtr, binV_geq, binV_eql, binV_neq, binV_add, binV_sub, binV_mul, un_not, CondA_false, CondA_true, Bool.not_true, Bool.not_false, reduceCtorEq, decide_true, decide_false, Nat.add_zero, Nat.zero_add, Nat.reduceAdd, Nat.reduceMul , h0, h1, h2, shr64_32, shr64_16, shr64_8, wrap_small _ hm, Int.toNat_natCast, lenTab _ hm, Int.natCast_nonneg, lenTab_nat _ hm, wrap_len (blen (n / 2 ^ 8)) (by omega), g1, g2, g3, g4, g5, g6, hs, and_self]
      · have hm : n < 256 := by omega
        have hb : blen (n) ≤ 8 := blen_le.2 hm
        have hs : IntKind.i64.wrap ((0 : Int) + ((blen (n) : Nat) : Int)) = (blen n : Int) := by rw [wrap_i64 (by omega) (by omega)]; omega
        simp only [F61, ↓RW_seq, ↓AW_ret, ↓AW_skip, ↓AW_exit, ↓AW_block, ↓RW_cond, ↓RW_reg, ↓RW_regd, ↓RO_op, ↓RO_t, ↓RO_f, ↓RO_nt, ↓RO_nf, ↓AO_nil, ↓RD_op, ↓RD_t, ↓RD_f, ↓RD_nt, ↓RD_fe, ↓RD_nte, ↓RD_nf, ↓AOD_nil, CDops_eff, CDops_no, CDops_1, CDops_2, Again_nil, Again_cons, Same1_int, Same1_bool, Same1_str, Same1_ptr, Same1_slice, Same1_nil, CSeq_ap, CReg_ap, COps_ap, Then_normal, Then_ret, Then_exit, InBlock_normal, InBlock_ret, InBlock_self, InBlock_exit, Ends_ret, Ends_normal, ares, tup, finO_some, fin_same, fin_false, argsE, dval, aop, ev, evs, evo, evp, fillL, addrOf, intOf?, lk_put, lk_none, lk_cons, lk_nil, keep_nil, keep_cons, Op1_some, Option.map_some, Option.bind_some, reduceIte, Nat.reduceEqDiff, binV_lss, binV_leq, binV_gtr, binV_geq, binV_eql, binV_neq, binV_add, binV_sub, binV_mul, un_not, CondA_false, CondA_true, Bool.not_true, Bool.not_false, reduceCtorEq, decide_true, decide_false, Nat.add_zero, Nat.zero_add, Nat.reduceAdd, Nat.reduceMul , h0, h1, h2, shr64_32, shr64_16, shr64_8, wrap_small _ hm, Int.toNat_natCast, lenTab _ hm, Int.natCast_nonneg, lenTab_nat _ hm, wrap_len (blen (n)) (by omega), g1, g2, g3, g4, g5, g6, hs, and_self]

end Go.Proofs.Ytlbhbjaimcinbaa.AI
