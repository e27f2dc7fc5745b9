/- Widths. -/
import Derived.Test.YtlbhbjaimcinbaaC1
set_option linter.unusedSimpArgs false
namespace Go.Proofs.Ytlbhbjaimcinbaa.AI
open Go

theorem len64_any (n : Nat) (h : n < 18446744073709551616) (H : Heap) : AC tbl 61 [.int .u64 n] H = some (.int .i64 (blen n), H) :=
  AC_iso (F := F61) rfl (by simp [F61]) rfl rfl rfl (len64 n h) H
theorem len (n : Nat) (h : n < 18446744073709551616) : AC tbl 49 [.int .u64 n] [] = some (.int .i64 (blen n), []) := by
  apply AC_eq
  apply AC_wp (F := F49) rfl (by simp [F49]) (.inr rfl)
  simp only [F49, ↓RW_seq, ↓AW_ret, ↓AW_skip, ↓AW_exit, ↓AW_block, ↓RW_cond, ↓RW_reg, ↓RW_regd, ↓RO_op, ↓RO_t, ↓RO_f, ↓RO_nt, ↓RO_nf, ↓AO_nil, ↓RD_op, ↓RD_t, ↓RD_f, ↓RD_nt, ↓RD_fe, ↓RD_nte, ↓RD_nf, ↓AOD_nil, CDops_eff, CDops_no, CDops_1, CDops_2, Again_nil, Again_cons, Same1_int, Same1_bool, Same1_str, Same1_ptr, Same1_slice, Same1_nil, CSeq_ap, CReg_ap, COps_ap, Then_normal, Then_ret, Then_exit, InBlock_normal, InBlock_ret, InBlock_self, InBlock_exit, Ends_ret, Ends_normal, ares, tup, finO_some, fin_same, fin_false, argsE, dval, aop, ev, evs, evo, evp, fillL, addrOf, intOf?, lk_put, lk_none, lk_cons, lk_nil, keep_nil, keep_cons, Op1_some, Option.map_some, Option.bind_some, reduceIte, Nat.reduceEqDiff, binV_lss, binV_leq, binV_gtr, binV_geq, binV_eql, binV_neq, binV_add, binV_sub, binV_mul, un_not, CondA_false, CondA_true, Bool.not_true, Bool.not_false, reduceCtorEq, decide_true, decide_false, Nat.add_zero, Nat.zero_add, Nat.reduceAdd, Nat.reduceMul , len64 n h, and_self]
theorem len_any (n : Nat) (h : n < 18446744073709551616) (H : Heap) : AC tbl 49 [.int .u64 n] H = some (.int .i64 (blen n), H) :=
  AC_iso (F := F49) rfl (by simp [F49]) rfl rfl rfl (len n h) H

/-- The width of a number. -/
def wd (n : Int) : Nat := if n < 0 then 0 else max 1 (blen n.toNat)
theorem wd_of {n : Nat} : wd n = max 1 (blen n) := by simp [wd]; intro h; omega

theorem width0 (n : Int) (h1 : n < 9223372036854775808) : AC tbl 24 [.int .i64 n] [] = some (.int .i64 (wd n), []) := by
  apply AC_eq
  apply AC_wp (F := F24) rfl (by simp [F24]) (.inr rfl)
  by_cases h : n < 0
  · simp only [F24, ↓RW_seq, ↓AW_ret, ↓AW_skip, ↓AW_exit, ↓AW_block, ↓RW_cond, ↓RW_reg, ↓RW_regd, ↓RO_op, ↓RO_t, ↓RO_f, ↓RO_nt, ↓RO_nf, ↓AO_nil, ↓RD_op, ↓RD_t, ↓RD_f, ↓RD_nt, ↓RD_fe, ↓RD_nte, ↓RD_nf, ↓AOD_nil, CDops_eff, CDops_no, CDops_1, CDops_2, Again_nil, Again_cons, Same1_int, Same1_bool, Same1_str, Same1_ptr, Same1_slice, Same1_nil, CSeq_ap, CReg_ap, COps_ap, Then_normal, Then_ret, Then_exit, InBlock_normal, InBlock_ret, InBlock_self, InBlock_exit, Ends_ret, Ends_normal, ares, tup, finO_some, fin_same, fin_false, argsE, dval, aop, ev, evs, evo, evp, fillL, addrOf, intOf?, lk_put, lk_none, lk_cons, lk_nil, keep_nil, keep_cons, Op1_some, Option.map_some, Option.bind_some, reduceIte, Nat.reduceEqDiff, binV_lss, binV_leq, binV_gtr, binV_geq, binV_eql, binV_neq, binV_add, binV_sub, binV_mul, un_not, CondA_false, CondA_true, Bool.not_true, Bool.not_false, reduceCtorEq, decide_true, decide_false, Nat.add_zero, Nat.zero_add, Nat.reduceAdd, Nat.reduceMul , h, wd, and_self]; simp
  · obtain ⟨m, rfl⟩ : ∃ m : Nat, n = m := ⟨n.toNat, by omega⟩
    have hl := len m (by omega)
    simp only [F24, ↓RW_seq, ↓AW_ret, ↓AW_skip, ↓AW_exit, ↓AW_block, ↓RW_cond, ↓RW_reg, ↓RW_regd, ↓RO_op, ↓RO_t, ↓RO_f, ↓RO_nt, ↓RO_nf, ↓AO_nil, ↓RD_op, ↓RD_t, ↓RD_f, ↓RD_nt, ↓RD_fe, ↓RD_nte, ↓RD_nf, ↓AOD_nil, CDops_eff, CDops_no, CDops_1, CDops_2, Again_nil, Again_cons, Same1_int, Same1_bool, Same1_str, Same1_ptr, Same1_slice, Same1_nil, CSeq_ap, CReg_ap, COps_ap, Then_normal, Then_ret, Then_exit, InBlock_normal, InBlock_ret, InBlock_self, InBlock_exit, Ends_ret, Ends_normal, ares, tup, finO_some, fin_same, fin_false, argsE, dval, aop, ev, evs, evo, evp, fillL, addrOf, intOf?, lk_put, lk_none, lk_cons, lk_nil, keep_nil, keep_cons, Op1_some, Option.map_some, Option.bind_some, reduceIte, Nat.reduceEqDiff, binV_lss, binV_leq, binV_gtr, binV_geq, binV_eql, binV_neq, binV_add, binV_sub, binV_mul, un_not, CondA_false, CondA_true, Bool.not_true, Bool.not_false, reduceCtorEq, decide_true, decide_false, Nat.add_zero, Nat.zero_add, Nat.reduceAdd, Nat.reduceMul , h, wrap_u64 (Int.natCast_nonneg m) (by omega : (m : Int) < 18446744073709551616), hl, wd_of]
    refine ⟨?_, trivial⟩
    by_cases h3 : ((blen m : Nat) : Int) > 1
    · rw [if_pos h3]; congr 2; omega
    · rw [if_neg h3]; congr 1; omega
theorem width (n : Int) (h1 : n < 9223372036854775808) (H : Heap) : AC tbl 24 [.int .i64 n] H = some (.int .i64 (wd n), H) :=
  AC_iso (F := F24) rfl (by simp [F24]) rfl rfl rfl (width0 n h1) H

def lim (n : Int) : Bool := decide (1 ≤ n) && decide (n ≤ 4095)
theorem limit0 (n : Int) : AC tbl 55 [.int .i64 n] [] = some (.bool (lim n), []) := by
  apply AC_eq
  apply AC_wp (F := F55) rfl (by simp [F55]) (.inr rfl)
  by_cases h : 1 ≤ n <;> simp only [F55, ↓RW_seq, ↓AW_ret, ↓AW_skip, ↓AW_exit, ↓AW_block, ↓RW_cond, ↓RW_reg, ↓RW_regd, ↓RO_op, ↓RO_t, ↓RO_f, ↓RO_nt, ↓RO_nf, ↓AO_nil, ↓RD_op, ↓RD_t, ↓RD_f, ↓RD_nt, ↓RD_fe, ↓RD_nte, ↓RD_nf, ↓AOD_nil, CDops_eff, CDops_no, CDops_1, CDops_2, Again_nil, Again_cons, Same1_int, Same1_bool, Same1_str, Same1_ptr, Same1_slice, Same1_nil, CSeq_ap, CReg_ap, COps_ap, Then_normal, Then_ret, Then_exit, InBlock_normal, InBlock_ret, InBlock_self, InBlock_exit, Ends_ret, Ends_normal, ares, tup, finO_some, fin_same, fin_false, argsE, dval, aop, ev, evs, evo, evp, fillL, addrOf, intOf?, lk_put, lk_none, lk_cons, lk_nil, keep_nil, keep_cons, Op1_some, Option.map_some, Option.bind_some, reduceIte, Nat.reduceEqDiff, binV_lss, binV_leq, binV_gtr, binV_geq, binV_eql, binV_neq, binV_add, binV_sub, binV_mul, un_not, CondA_false, CondA_true, Bool.not_true, Bool.not_false, reduceCtorEq, decide_true, decide_false, Nat.add_zero, Nat.zero_add, Nat.reduceAdd, Nat.reduceMul , h, lim, Bool.true_and, Bool.false_and, and_self]
theorem limit (n : Int) (H : Heap) : AC tbl 55 [.int .i64 n] H = some (.bool (lim n), H) :=
  AC_iso (F := F55) rfl (by simp [F55]) rfl rfl rfl (limit0 n) H

theorem blen_half {n : Nat} (h : 2 ≤ n) : blen n = 1 + blen (n / 2) := by
  have := blen_shift (n := n) (k := 1) (by simpa using h); simpa using this
theorem refWidth0 (n : Int) (h1 : n < 9223372036854775808) : AC tbl 54 [.int .i64 n] [] = some (.int .i64 (wd n), []) := by
  apply AC_eq
  apply AC_wp (F := F54) rfl (by simp [F54]) (.inr rfl)
  by_cases h : n < 0
  · simp only [F54, ↓RW_seq, ↓AW_ret, ↓AW_skip, ↓AW_exit, ↓AW_block, ↓RW_cond, ↓RW_reg, ↓RW_regd, ↓RO_op, ↓RO_t, ↓RO_f, ↓RO_nt, ↓RO_nf, ↓AO_nil, ↓RD_op, ↓RD_t, ↓RD_f, ↓RD_nt, ↓RD_fe, ↓RD_nte, ↓RD_nf, ↓AOD_nil, CDops_eff, CDops_no, CDops_1, CDops_2, Again_nil, Again_cons, Same1_int, Same1_bool, Same1_str, Same1_ptr, Same1_slice, Same1_nil, CSeq_ap, CReg_ap, COps_ap, Then_normal, Then_ret, Then_exit, InBlock_normal, InBlock_ret, InBlock_self, InBlock_exit, Ends_ret, Ends_normal, ares, tup, finO_some, fin_same, fin_false, argsE, dval, aop, ev, evs, evo, evp, fillL, addrOf, intOf?, lk_put, lk_none, lk_cons, lk_nil, keep_nil, keep_cons, Op1_some, Option.map_some, Option.bind_some, reduceIte, Nat.reduceEqDiff, binV_lss, binV_leq, binV_gtr, binV_geq, binV_eql, binV_neq, binV_add, binV_sub, binV_mul, un_not, CondA_false, CondA_true, Bool.not_true, Bool.not_false, reduceCtorEq, decide_true, decide_false, Nat.add_zero, Nat.zero_add, Nat.reduceAdd, Nat.reduceMul , h, wd, and_self]; simp
  · obtain ⟨m, rfl⟩ : ∃ m : Nat, n = m := ⟨n.toNat, by omega⟩
    have q0 : ¬ (2 : Int) = 0 := by omega
    simp only [F54, ↓RW_seq, ↓AW_ret, ↓AW_skip, ↓AW_exit, ↓AW_block, ↓RW_cond, ↓RW_reg, ↓RO_op, ↓AO_nil, CSeq_ap, CReg_ap, COps_ap, Then_normal, argsE, dval, aop, ev, lk_put, lk_none, lk_cons, lk_nil, keep_nil, keep_cons, Op1_some, Option.map_some, Option.bind_some, reduceIte, Nat.reduceEqDiff, binV_lss, CondA_false, h, decide_false]
    apply AW_loop_inv (fun k e H => ∃ (a c : Nat), a = k ∧ H = [] ∧ e = [(0, .int .i64 a), (3, .int .i64 c)] ∧ c + max 1 (blen a) = 1 + wd m ∧ a < 9223372036854775808 ∧ c < 1000) _ m
    · exact ⟨m, 1, rfl, rfl, rfl, by rw [wd_of], by omega, by omega⟩
    · rintro k e H ⟨a, c, rfl, rfl, rfl, h2, h3, h4⟩
      by_cases h5 : (2 : Int) ≤ a
      · have hb := blen_half (n := a) (by omega)
        have hq : IntKind.i64.wrap ((a : Int).tdiv 2) = ((a / 2 : Nat) : Int) := by
          rw [show ((a : Int)).tdiv 2 = ((a / 2 : Nat) : Int) from rfl, wrap_i64 (by omega) (by omega)]
        have hw : wd m ≤ 64 := by
          rw [wd_of]; have := (@blen_le m 64).2 (by omega); omega
        have hc : IntKind.i64.wrap ((c : Int) + 1) = ((c + 1 : Nat) : Int) := by rw [wrap_i64 (by omega) (by omega)]; rfl
        simp only [↓RW_seq, ↓AW_ret, ↓AW_skip, ↓AW_exit, ↓AW_block, ↓RW_cond, ↓RW_reg, ↓RW_regd, ↓RO_op, ↓RO_t, ↓RO_f, ↓RO_nt, ↓RO_nf, ↓AO_nil, ↓RD_op, ↓RD_t, ↓RD_f, ↓RD_nt, ↓RD_fe, ↓RD_nte, ↓RD_nf, ↓AOD_nil, CDops_eff, CDops_no, CDops_1, CDops_2, Again_nil, Again_cons, Same1_int, Same1_bool, Same1_str, Same1_ptr, Same1_slice, Same1_nil, CSeq_ap, CReg_ap, COps_ap, Then_normal, Then_ret, Then_exit, InBlock_normal, InBlock_ret, InBlock_self, InBlock_exit, Ends_ret, Ends_normal, ares, tup, finO_some, fin_same, fin_false, argsE, dval, aop, ev, evs, evo, evp, fillL, addrOf, intOf?, lk_put, lk_none, lk_cons, lk_nil, keep_nil, keep_cons, Op1_some, Option.map_some, Option.bind_some, reduceIte, Nat.reduceEqDiff, binV_lss, binV_leq, binV_gtr, binV_geq, binV_eql, binV_neq, binV_add, binV_sub, binV_mul, un_not, CondA_false, CondA_true, Bool.not_true, Bool.not_false, reduceCtorEq, decide_true, decide_false, Nat.add_zero, Nat.zero_add, Nat.reduceAdd, Nat.reduceMul , binV_quo _ _ _ q0, h5, hq, hc]
        have h6 : (blen (a / 2)) ≥ 1 := by
          have := @blen_le (a / 2) 0
          omega
        exact ⟨a / 2, by omega, a / 2, c + 1, rfl, rfl, rfl, by omega, by omega, by omega⟩
      · have hb : blen a ≤ 1 := blen_le.2 (by omega)
        simp only [↓RW_seq, ↓AW_ret, ↓AW_skip, ↓AW_exit, ↓AW_block, ↓RW_cond, ↓RW_reg, ↓RW_regd, ↓RO_op, ↓RO_t, ↓RO_f, ↓RO_nt, ↓RO_nf, ↓AO_nil, ↓RD_op, ↓RD_t, ↓RD_f, ↓RD_nt, ↓RD_fe, ↓RD_nte, ↓RD_nf, ↓AOD_nil, CDops_eff, CDops_no, CDops_1, CDops_2, Again_nil, Again_cons, Same1_int, Same1_bool, Same1_str, Same1_ptr, Same1_slice, Same1_nil, CSeq_ap, CReg_ap, COps_ap, Then_normal, Then_ret, Then_exit, InBlock_normal, InBlock_ret, InBlock_self, InBlock_exit, Ends_ret, Ends_normal, ares, tup, finO_some, fin_same, fin_false, argsE, dval, aop, ev, evs, evo, evp, fillL, addrOf, intOf?, lk_put, lk_none, lk_cons, lk_nil, keep_nil, keep_cons, Op1_some, Option.map_some, Option.bind_some, reduceIte, Nat.reduceEqDiff, binV_lss, binV_leq, binV_gtr, binV_geq, binV_eql, binV_neq, binV_add, binV_sub, binV_mul, un_not, CondA_false, CondA_true, Bool.not_true, Bool.not_false, reduceCtorEq, decide_true, decide_false, Nat.add_zero, Nat.zero_add, Nat.reduceAdd, Nat.reduceMul , h5]
        refine ⟨?_, trivial⟩
        congr 1; omega
theorem refWidth (n : Int) (h1 : n < 9223372036854775808) (H : Heap) : AC tbl 54 [.int .i64 n] H = some (.int .i64 (wd n), H) :=
  AC_iso (F := F54) rfl (by simp [F54]) rfl rfl rfl (refWidth0 n h1) H

end Go.Proofs.Ytlbhbjaimcinbaa.AI
