/- BitioWidths: Width returns the least width with which a number can be written. -/
import Derived.Test.YtlbhbjaimcinbaaW4
import Derived.Test.YtlbhbjaimcinbaaBAwake
set_option linter.unusedSimpArgs false
namespace Go.Proofs.Ytlbhbjaimcinbaa.AI
open Go

theorem wd_pos {n : Int} (h : 0 ≤ n) : 1 ≤ wd n := by
  unfold wd; split
  · omega
  · omega
theorem wd_fits {n : Int} (h : 0 ≤ n) : n < 2 ^ wd n := by
  have h1 := (blen_int (n := n) (w := (wd n : Int)) h (by omega)).1 (by unfold wd; split <;> omega)
  simpa using h1
theorem wd_least {n : Int} (h : 0 ≤ n) (hw : 2 ≤ wd n) : ¬ n < 2 ^ (wd n - 1) := by
  intro h1
  have h2 := (blen_int (n := n) (w := ((wd n - 1 : Nat) : Int)) h (by omega)).2 (by simpa using h1)
  have : wd n = max 1 (blen n.toNat) := by unfold wd; rw [if_neg (by omega)]
  omega

theorem widths (H : Heap) (most : Int) (hm : Is64 most) : Op1 (AC tbl 5 [.int .i64 most] H) fun v _ => v = .bool true := by
  apply AC_wp (F := F5) rfl (by simp [F5]) (.inl rfl)
  have hw := width most hm.2
  have hle := wd_le hm.2
  by_cases h1 : most < 0
  · have h2 : wd most = 0 := by simp [wd, h1]
    have h3 : decide (((wd most : Nat) : Int) = 0) = true := by simp [h2]
    simp only [F5, ↓RW_seq, ↓AW_ret, ↓AW_skip, ↓AW_exit, ↓AW_block, ↓RW_cond, ↓RW_reg, ↓RW_regd, ↓RO_op, ↓RO_t, ↓RO_f, ↓RO_nt, ↓RO_nf, ↓AO_nil, ↓RD_op, ↓RD_t, ↓RD_f, ↓RD_nt, ↓RD_fe, ↓RD_nte, ↓RD_nf, ↓AOD_nil, CDops_eff, CDops_no, CDops_1, CDops_2, Again_nil, Again_cons, Same1_int, Same1_bool, Same1_str, Same1_ptr, Same1_slice, Same1_nil, CSeq_ap, CReg_ap, COps_ap, Then_normal, Then_ret, Then_exit, InBlock_normal, InBlock_ret, InBlock_self, InBlock_exit, Ends_ret, Ends_normal, ares, tup, finO_some, fin_same, fin_false, argsE, dval, aop, ev, evs, evo, evp, fillL, addrOf, intOf?, lk_put, lk_none, lk_cons, lk_nil, keep_nil, keep_cons, Op1_some, Option.map_some, Option.bind_some, reduceIte, Nat.reduceEqDiff, binV_lss, binV_leq, binV_gtr, binV_geq, binV_eql, binV_neq, binV_add, binV_sub, binV_mul, un_not, CondA_false, CondA_true, Bool.not_true, Bool.not_false, reduceCtorEq, decide_true, decide_false, Nat.add_zero, Nat.zero_add, Nat.reduceAdd, Nat.reduceMul, Bool.bne_false, Bool.bne_true, eqPtr, Option.isNone_some, Option.isNone_none, List.getElem?_cons_zero, List.getElem?_cons_succ, Option.isSome_none, Option.isSome_some , hload, hstore, List.length_cons, List.length_nil, Nat.reduceAdd, Nat.reduceLeDiff, decide_true, List.all_cons, List.all_nil, one, Bool.and_true, Bool.true_and, Bool.and_self, splice, List.set_cons_zero, List.set_cons_succ, List.getElem?_cons_zero, List.getElem?_cons_succ, vc_int, vc_slice, vc_str, vc_bool, vc_int', vc_slice', vc_str', vc_bool', List.length_set, List.length_append, Nat.lt_irrefl, Nat.lt_add_one, and_self, true_and, and_true, lenV, cellsOfSlice, Nat.le_refl, if_true , awake_any, hw, h1, h3]
  · have h0 : 0 ≤ most := by omega
    have p1 := wd_pos h0
    have c1 : ¬ ((wd most : Nat) : Int) < 1 := by omega
    have c2 : ¬ (63 : Int) < ((wd most : Nat) : Int) := by omega
    have e1 : WS.unsigned ⟨[], 0⟩ (wd most) most = ⟨bitsOf (wd most) (u64 most), 0⟩ := by
      have f1 := wd_fits h0
      have f2 : (1 : Int) ≤ ((wd most : Nat) : Int) ∧ ((wd most : Nat) : Int) ≤ 63 := by omega
      have f3 : ¬ (524288 : Int) < ((([] : List Bool).length : Nat) : Int) + ((wd most : Nat) : Int) := by simp; omega
      simp only [WS.unsigned, WS.field, ne_eq, not_true_eq_false, if_false, f2, and_self, decide_true, true_and, h0, Int.toNat_natCast, f1, f3, List.nil_append, Bool.true_eq_false]
    simp only [F5, ↓RW_seq, ↓AW_ret, ↓AW_skip, ↓AW_exit, ↓AW_block, ↓RW_cond, ↓RW_reg, ↓RW_regd, ↓RO_op, ↓RO_t, ↓RO_f, ↓RO_nt, ↓RO_nf, ↓AO_nil, ↓RD_op, ↓RD_t, ↓RD_f, ↓RD_nt, ↓RD_fe, ↓RD_nte, ↓RD_nf, ↓AOD_nil, CDops_eff, CDops_no, CDops_1, CDops_2, Again_nil, Again_cons, Same1_int, Same1_bool, Same1_str, Same1_ptr, Same1_slice, Same1_nil, CSeq_ap, CReg_ap, COps_ap, Then_normal, Then_ret, Then_exit, InBlock_normal, InBlock_ret, InBlock_self, InBlock_exit, Ends_ret, Ends_normal, ares, tup, finO_some, fin_same, fin_false, argsE, dval, aop, ev, evs, evo, evp, fillL, addrOf, intOf?, lk_put, lk_none, lk_cons, lk_nil, keep_nil, keep_cons, Op1_some, Option.map_some, Option.bind_some, reduceIte, Nat.reduceEqDiff, binV_lss, binV_leq, binV_gtr, binV_geq, binV_eql, binV_neq, binV_add, binV_sub, binV_mul, un_not, CondA_false, CondA_true, Bool.not_true, Bool.not_false, reduceCtorEq, decide_true, decide_false, Nat.add_zero, Nat.zero_add, Nat.reduceAdd, Nat.reduceMul, Bool.bne_false, Bool.bne_true, eqPtr, Option.isNone_some, Option.isNone_none, List.getElem?_cons_zero, List.getElem?_cons_succ, Option.isSome_none, Option.isSome_some , hload, hstore, List.length_cons, List.length_nil, Nat.reduceAdd, Nat.reduceLeDiff, decide_true, List.all_cons, List.all_nil, one, Bool.and_true, Bool.true_and, Bool.and_self, splice, List.set_cons_zero, List.set_cons_succ, List.getElem?_cons_zero, List.getElem?_cons_succ, vc_int, vc_slice, vc_str, vc_bool, vc_int', vc_slice', vc_str', vc_bool', List.length_set, List.length_append, Nat.lt_irrefl, Nat.lt_add_one, and_self, true_and, and_true, lenV, cellsOfSlice, Nat.le_refl, if_true , awake_any, hw, h1, c1, c2, newWriter_eq]
    have g1 : WSt (H ++ [some ⟨true, [.slice none 0 0, .int .i64 0, .int .i64 0]⟩] ++ [some ⟨true, [.slice none 0 0, .int .i64 0, .int .i64 0]⟩]) H.length none [] 0 := (newWriter_st H).frame (O := []) ((Frm.refl _ _).push _) (by simp) (by simp)
    have g2 : WSt (H ++ [some ⟨true, [.slice none 0 0, .int .i64 0, .int .i64 0]⟩] ++ [some ⟨true, [.slice none 0 0, .int .i64 0, .int .i64 0]⟩]) (H.length + 1) none [] 0 := by
      have := newWriter_st (H ++ [some ⟨true, [.slice none 0 0, .int .i64 0, .int .i64 0]⟩])
      simpa using this
    refine unsigned_spec (s := ⟨[], 0⟩) g1 (by simp) hm fun H1 o1 k1 k2 k3 => ?_
    rw [e1] at k1
    have g3 := g2.frame k2 (by simp) (by simp)
    obtain ⟨s1, is1, b1⟩ := bytes_spec k1
    have l1 : ((((bitsOf (wd most) (u64 most)).length : Nat) : Int)) = ((wd most : Nat) : Int) := by rw [bitsOf_length]
    simp only [↓RW_seq, ↓AW_ret, ↓AW_skip, ↓AW_exit, ↓AW_block, ↓RW_cond, ↓RW_reg, ↓RW_regd, ↓RO_op, ↓RO_t, ↓RO_f, ↓RO_nt, ↓RO_nf, ↓AO_nil, ↓RD_op, ↓RD_t, ↓RD_f, ↓RD_nt, ↓RD_fe, ↓RD_nte, ↓RD_nf, ↓AOD_nil, CDops_eff, CDops_no, CDops_1, CDops_2, Again_nil, Again_cons, Same1_int, Same1_bool, Same1_str, Same1_ptr, Same1_slice, Same1_nil, CSeq_ap, CReg_ap, COps_ap, Then_normal, Then_ret, Then_exit, InBlock_normal, InBlock_ret, InBlock_self, InBlock_exit, Ends_ret, Ends_normal, ares, tup, finO_some, fin_same, fin_false, argsE, dval, aop, ev, evs, evo, evp, fillL, addrOf, intOf?, lk_put, lk_none, lk_cons, lk_nil, keep_nil, keep_cons, Op1_some, Option.map_some, Option.bind_some, reduceIte, Nat.reduceEqDiff, binV_lss, binV_leq, binV_gtr, binV_geq, binV_eql, binV_neq, binV_add, binV_sub, binV_mul, un_not, CondA_false, CondA_true, Bool.not_true, Bool.not_false, reduceCtorEq, decide_true, decide_false, Nat.add_zero, Nat.zero_add, Nat.reduceAdd, Nat.reduceMul, Bool.bne_false, Bool.bne_true, eqPtr, Option.isNone_some, Option.isNone_none, List.getElem?_cons_zero, List.getElem?_cons_succ, Option.isSome_none, Option.isSome_some , hload, hstore, List.length_cons, List.length_nil, Nat.reduceAdd, Nat.reduceLeDiff, decide_true, List.all_cons, List.all_nil, one, Bool.and_true, Bool.true_and, Bool.and_self, splice, List.set_cons_zero, List.set_cons_succ, List.getElem?_cons_zero, List.getElem?_cons_succ, vc_int, vc_slice, vc_str, vc_bool, vc_int', vc_slice', vc_str', vc_bool', List.length_set, List.length_append, Nat.lt_irrefl, Nat.lt_add_one, and_self, true_and, and_true, lenV, cellsOfSlice, Nat.le_refl, if_true , b1, bits_spec k1, l1, ne_eq, not_true_eq_false]
    by_cases h2 : ((wd most : Nat) : Int) = 1
    · have h3 : most ≤ 1 := by
        have := wd_fits h0
        rw [show wd most = 1 by omega] at this; simp at this; omega
      simp only [↓RW_seq, ↓AW_ret, ↓AW_skip, ↓AW_exit, ↓AW_block, ↓RW_cond, ↓RW_reg, ↓RW_regd, ↓RO_op, ↓RO_t, ↓RO_f, ↓RO_nt, ↓RO_nf, ↓AO_nil, ↓RD_op, ↓RD_t, ↓RD_f, ↓RD_nt, ↓RD_fe, ↓RD_nte, ↓RD_nf, ↓AOD_nil, CDops_eff, CDops_no, CDops_1, CDops_2, Again_nil, Again_cons, Same1_int, Same1_bool, Same1_str, Same1_ptr, Same1_slice, Same1_nil, CSeq_ap, CReg_ap, COps_ap, Then_normal, Then_ret, Then_exit, InBlock_normal, InBlock_ret, InBlock_self, InBlock_exit, Ends_ret, Ends_normal, ares, tup, finO_some, fin_same, fin_false, argsE, dval, aop, ev, evs, evo, evp, fillL, addrOf, intOf?, lk_put, lk_none, lk_cons, lk_nil, keep_nil, keep_cons, Op1_some, Option.map_some, Option.bind_some, reduceIte, Nat.reduceEqDiff, binV_lss, binV_leq, binV_gtr, binV_geq, binV_eql, binV_neq, binV_add, binV_sub, binV_mul, un_not, CondA_false, CondA_true, Bool.not_true, Bool.not_false, reduceCtorEq, decide_true, decide_false, Nat.add_zero, Nat.zero_add, Nat.reduceAdd, Nat.reduceMul, Bool.bne_false, Bool.bne_true, eqPtr, Option.isNone_some, Option.isNone_none, List.getElem?_cons_zero, List.getElem?_cons_succ, Option.isSome_none, Option.isSome_some , h2, h3]
    · have w1 : IntKind.i64.wrap (((wd most : Nat) : Int) - 1) = ((wd most - 1 : Nat) : Int) := by rw [wrap_i64 (by omega) (by omega)]; omega
      have e2 : WS.unsigned ⟨[], 0⟩ ((wd most - 1 : Nat) : Int) most = ⟨[], 2⟩ := by
        have f1 := wd_least h0 (by omega)
        have f2 : (1 : Int) ≤ ((wd most - 1 : Nat) : Int) ∧ ((wd most - 1 : Nat) : Int) ≤ 63 := by omega
        simp only [WS.unsigned, WS.field, ne_eq, not_true_eq_false, if_false, f2, and_self, decide_true, true_and, h0, Int.toNat_natCast, f1, Bool.true_eq_false, decide_false, if_true]
      simp only [↓RW_seq, ↓AW_ret, ↓AW_skip, ↓AW_exit, ↓AW_block, ↓RW_cond, ↓RW_reg, ↓RW_regd, ↓RO_op, ↓RO_t, ↓RO_f, ↓RO_nt, ↓RO_nf, ↓AO_nil, ↓RD_op, ↓RD_t, ↓RD_f, ↓RD_nt, ↓RD_fe, ↓RD_nte, ↓RD_nf, ↓AOD_nil, CDops_eff, CDops_no, CDops_1, CDops_2, Again_nil, Again_cons, Same1_int, Same1_bool, Same1_str, Same1_ptr, Same1_slice, Same1_nil, CSeq_ap, CReg_ap, COps_ap, Then_normal, Then_ret, Then_exit, InBlock_normal, InBlock_ret, InBlock_self, InBlock_exit, Ends_ret, Ends_normal, ares, tup, finO_some, fin_same, fin_false, argsE, dval, aop, ev, evs, evo, evp, fillL, addrOf, intOf?, lk_put, lk_none, lk_cons, lk_nil, keep_nil, keep_cons, Op1_some, Option.map_some, Option.bind_some, reduceIte, Nat.reduceEqDiff, binV_lss, binV_leq, binV_gtr, binV_geq, binV_eql, binV_neq, binV_add, binV_sub, binV_mul, un_not, CondA_false, CondA_true, Bool.not_true, Bool.not_false, reduceCtorEq, decide_true, decide_false, Nat.add_zero, Nat.zero_add, Nat.reduceAdd, Nat.reduceMul, Bool.bne_false, Bool.bne_true, eqPtr, Option.isNone_some, Option.isNone_none, List.getElem?_cons_zero, List.getElem?_cons_succ, Option.isSome_none, Option.isSome_some , h2, w1]
      refine unsigned_spec (s := ⟨[], 0⟩) g3 (by simp) hm fun H2 o2 m1 m2 m3 => ?_
      rw [e2] at m1
      obtain ⟨s2, is2, b2⟩ := bytes_spec m1
      simp only [↓RW_seq, ↓AW_ret, ↓AW_skip, ↓AW_exit, ↓AW_block, ↓RW_cond, ↓RW_reg, ↓RW_regd, ↓RO_op, ↓RO_t, ↓RO_f, ↓RO_nt, ↓RO_nf, ↓AO_nil, ↓RD_op, ↓RD_t, ↓RD_f, ↓RD_nt, ↓RD_fe, ↓RD_nte, ↓RD_nf, ↓AOD_nil, CDops_eff, CDops_no, CDops_1, CDops_2, Again_nil, Again_cons, Same1_int, Same1_bool, Same1_str, Same1_ptr, Same1_slice, Same1_nil, CSeq_ap, CReg_ap, COps_ap, Then_normal, Then_ret, Then_exit, InBlock_normal, InBlock_ret, InBlock_self, InBlock_exit, Ends_ret, Ends_normal, ares, tup, finO_some, fin_same, fin_false, argsE, dval, aop, ev, evs, evo, evp, fillL, addrOf, intOf?, lk_put, lk_none, lk_cons, lk_nil, keep_nil, keep_cons, Op1_some, Option.map_some, Option.bind_some, reduceIte, Nat.reduceEqDiff, binV_lss, binV_leq, binV_gtr, binV_geq, binV_eql, binV_neq, binV_add, binV_sub, binV_mul, un_not, CondA_false, CondA_true, Bool.not_true, Bool.not_false, reduceCtorEq, decide_true, decide_false, Nat.add_zero, Nat.zero_add, Nat.reduceAdd, Nat.reduceMul, Bool.bne_false, Bool.bne_true, eqPtr, Option.isNone_some, Option.isNone_none, List.getElem?_cons_zero, List.getElem?_cons_succ, Option.isSome_none, Option.isSome_some , hload, hstore, List.length_cons, List.length_nil, Nat.reduceAdd, Nat.reduceLeDiff, decide_true, List.all_cons, List.all_nil, one, Bool.and_true, Bool.true_and, Bool.and_self, splice, List.set_cons_zero, List.set_cons_succ, List.getElem?_cons_zero, List.getElem?_cons_succ, vc_int, vc_slice, vc_str, vc_bool, vc_int', vc_slice', vc_str', vc_bool', List.length_set, List.length_append, Nat.lt_irrefl, Nat.lt_add_one, and_self, true_and, and_true, lenV, cellsOfSlice, Nat.le_refl, if_true , b2, bits_spec m1]
      simp

end Go.Proofs.Ytlbhbjaimcinbaa.AI
