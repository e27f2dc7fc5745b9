/- The reader's signed numbers and its end. -/
import Derived.Test.YtlbhbjaimcinbaaR2
set_option linter.unusedSimpArgs false
namespace Go.Proofs.Ytlbhbjaimcinbaa.AI
open Go

def RS.signed (r : RS) (w : Int) : Int × RS :=
  let x := r.field (decide (2 ≤ w ∧ w ≤ 63)) w
  (if x.2.err = 0 ∧ 2 ^ (w.toNat - 1) ≤ x.1 then (x.1 : Int) - 2 ^ w.toNat else (x.1 : Int), x.2)

theorem and64i (a : Nat) (h : a < 9223372036854775808) : binV .and (.int .i64 (a : Int)) (.int .i64 1) = some (.int .i64 ((a % 2 : Nat) : Int)) := by
  rw [binV_and]
  have : (BitVec.ofInt IntKind.i64.bits (a : Int) &&& BitVec.ofInt IntKind.i64.bits 1).toNat = a % 2 := by
    rw [BitVec.toNat_and]
    simp only [BitVec.toNat_ofInt, IntKind.bits]
    have : ((a : Int) % ((2 ^ 64 : Nat) : Int)).toNat = a := by
      rw [show ((2 ^ 64 : Nat) : Int) = 18446744073709551616 by decide]; omega
    rw [this, show ((1 : Int) % ((2 ^ 64 : Nat) : Int)).toNat = 1 by decide, Nat.and_one_is_mod]
  rw [this, wrap_i64 (by omega) (by omega)]
theorem shr64i (a s : Nat) (hs : s ≤ 64) : binV .shr (.int .i64 (a : Int)) (.int .i64 (s : Int)) = some (.int .i64 ((a / 2 ^ s : Nat) : Int)) := by
  rw [binV_shr _ _ _ _ (by omega), shr_nat .i64 a s hs]
theorem wrap_sub_wrap (a b : Int) : IntKind.i64.wrap (a - IntKind.i64.wrap b) = IntKind.i64.wrap (a - b) := by
  simp only [IntKind.wrap, IntKind.bits, IntKind.signed, Bool.true_and, ge_iff_le, decide_eq_true_eq]
  have e1 : (2 : Int) ^ 64 = 18446744073709551616 := by decide
  have e2 : (2 : Int) ^ (64 - 1) = 9223372036854775808 := by decide
  rw [e1, e2]
  split <;> split <;> split <;> omega
theorem top_bit {n m : Nat} (h : n < 2 ^ (m + 1)) : n / 2 ^ m % 2 = 1 ↔ 2 ^ m ≤ n := by
  have h0 := Nat.two_pow_pos m
  have h1 : n / 2 ^ m < 2 := by rw [Nat.div_lt_iff_lt_mul h0]; rw [Nat.pow_succ] at h; omega
  have h2 : 1 ≤ n / 2 ^ m ↔ 2 ^ m ≤ n := by rw [Nat.le_div_iff_mul_le h0]; omega
  rw [← h2]
  generalize n / 2 ^ m = q at *
  omega

theorem field_err0 {r : RS} {right : Bool} {w : Int} (h : (r.field right w).2.err = 0) : right = true ∧ r.err = 0 ∧ r.field right w = (valOf r.s r.at_ w.toNat, { r with at_ := r.at_ + w.toNat }) ∧ ¬ r.left < w := by
  unfold RS.field at h ⊢
  split at h
  · rename_i h1; exact absurd h h1
  · split at h
    · simp at h
    · split at h
      · simp at h
      · rename_i h1 h2 h3
        exact ⟨by simpa using h2, by simpa using h1, by rw [if_neg h1, if_neg h2, if_neg h3], h3⟩

theorem rsigned_spec {H : Heap} {p : Nat} {r : RS} {w : Int} (h : RSt H p r) (ho : r.Ok) :
    AC tbl 27 [.pointer (some ⟨p, 0, none⟩), .int .i64 w] H = some (.int .i64 (r.signed w).1, setR H p (r.signed w).2) := by
  apply AC_eq
  apply AC_wp (F := F27) rfl (by simp [F27]) (.inl rfl)
  have hsm := @field_small r (decide (2 ≤ w ∧ w ≤ 63)) w (fun hr => by simp at hr; omega)
  have hsp := @rfield_spec H p r (decide (2 ≤ w ∧ w ≤ 63)) w h ho (fun hr => by simp at hr; omega)
  have he0 := @field_err0 r (decide (2 ≤ w ∧ w ≤ 63)) w
  have hsg : r.signed w = (if (r.field (decide (2 ≤ w ∧ w ≤ 63)) w).2.err = 0 ∧ 2 ^ (w.toNat - 1) ≤ (r.field (decide (2 ≤ w ∧ w ≤ 63)) w).1 then ((r.field (decide (2 ≤ w ∧ w ≤ 63)) w).1 : Int) - 2 ^ w.toNat else ((r.field (decide (2 ≤ w ∧ w ≤ 63)) w).1 : Int), (r.field (decide (2 ≤ w ∧ w ≤ 63)) w).2) := rfl
  rw [hsg]
  clear hsg
  generalize hx : r.field (decide (2 ≤ w ∧ w ≤ 63)) w = x at *
  obtain ⟨n, r'⟩ := x
  simp only at hsm hsp he0 ⊢
  have hst : hget (setR H p r') p = some ⟨true, [.string r'.s, .int .i64 (r'.at_ : Int), .int .i64 r'.err]⟩ := setR_st h.lt r'
  have hwr : IntKind.i64.wrap (n : Int) = (n : Int) := wrap_i64 (by omega) (by omega)
  have key : ∀ b1 b2 : Bool, b1 = decide (2 ≤ w) → (b1 = true → b2 = decide (w ≤ 63)) → decide (2 ≤ w ∧ w ≤ 63) = (if b1 then b2 else false) := by
    intro b1 b2 h1 h2
    cases b1
    · simp at h1 ⊢; omega
    · rw [h2 rfl]; simp at h1 ⊢; intro h3; exact h1
  by_cases h1 : 2 ≤ w
  · have e1 : decide (2 ≤ w ∧ w ≤ 63) = decide (w ≤ 63) := by simp [h1]
    rw [e1] at hsp
    by_cases h2 : r'.err = 0
    · obtain ⟨hr, hr0, hf, hl⟩ := he0 h2
      simp only [Prod.mk.injEq] at hf
      obtain ⟨hn, hr'⟩ := hf
      simp at hr
      obtain ⟨m, rfl⟩ : ∃ m : Nat, w = (m : Int) + 1 := ⟨(w - 1).toNat, by omega⟩
      have et : ((m : Int) + 1).toNat = m + 1 := by omega
      have hv := valOf_lt r.s r.at_ (m + 1)
      rw [et] at hn hr'
      rw [← hn] at hv
      have hdiv : n / 2 ^ m < 9223372036854775808 := Nat.lt_of_le_of_lt (Nat.div_le_self _ _) hsm
      have w1 : IntKind.i64.wrap ((m : Int) + 1 - 1) = (m : Int) := by rw [wrap_i64 (by omega) (by omega)]; omega
      have htb := top_bit hv
      rw [et]
      by_cases h3 : 2 ^ m ≤ n
      · have c1 : (((n / 2 ^ m % 2 : Nat) : Int) = 1) := by have := htb.2 h3; omega
        have hsh : binV .shl (.int .i64 1) (.int .i64 ((m : Int) + 1)) = some (.int .i64 (IntKind.i64.wrap (2 ^ (m + 1)))) := by
          rw [binV_shl _ _ _ _ (by omega)]
          have : min ((m : Int) + 1).toNat IntKind.i64.bits = m + 1 := by simp [IntKind.bits]; omega
          rw [this]; simp
        have w2 : IntKind.i64.wrap ((n : Int) - IntKind.i64.wrap (2 ^ (m + 1))) = (n : Int) - 2 ^ (m + 1) := by
          rw [wrap_sub_wrap]
          have p2 : (2 : Nat) ^ (m + 1) ≤ 2 ^ 63 := Nat.pow_le_pow_right (by omega) (by omega)
          have p3 : (2 : Nat) ^ 63 = 9223372036854775808 := by decide
          have p4 : (2 : Int) ^ (m + 1) = ((2 ^ (m + 1) : Nat) : Int) := by push_cast; rfl
          rw [p4]
          exact wrap_i64 (by omega) (by omega)
        simp only [F27, ↓RW_seq, ↓AW_ret, ↓AW_skip, ↓AW_exit, ↓AW_block, ↓RW_cond, ↓RW_reg, ↓RW_regd, ↓RO_op, ↓RO_t, ↓RO_f, ↓RO_nt, ↓RO_nf, ↓AO_nil, ↓RD_op, ↓RD_t, ↓RD_f, ↓RD_nt, ↓RD_fe, ↓RD_nte, ↓RD_nf, ↓AOD_nil, CDops_eff, CDops_no, CDops_1, CDops_2, Again_nil, Again_cons, Same1_int, Same1_bool, Same1_str, Same1_ptr, Same1_slice, Same1_nil, CSeq_ap, CReg_ap, COps_ap, Then_normal, Then_ret, Then_exit, InBlock_normal, InBlock_ret, InBlock_self, InBlock_exit, Ends_ret, Ends_normal, ares, tup, finO_some, fin_same, fin_false, argsE, dval, aop, ev, evs, evo, evp, fillL, addrOf, intOf?, lk_put, lk_none, lk_cons, lk_nil, keep_nil, keep_cons, Op1_some, Option.map_some, Option.bind_some, reduceIte, Nat.reduceEqDiff, binV_lss, binV_leq, binV_gtr, binV_geq, binV_eql, binV_neq, binV_add, binV_sub, binV_mul, un_not, CondA_false, CondA_true, Bool.not_true, Bool.not_false, reduceCtorEq, decide_true, decide_false, Nat.add_zero, Nat.zero_add, Nat.reduceAdd, Nat.reduceMul, Bool.bne_false, Bool.bne_true, eqPtr, Option.isNone_some, Option.isNone_none, List.getElem?_cons_zero, List.getElem?_cons_succ, Option.isSome_none, Option.isSome_some , hload, hstore, List.length_cons, List.length_nil, Nat.reduceAdd, Nat.reduceLeDiff, decide_true, List.all_cons, List.all_nil, one, Bool.and_true, Bool.true_and, Bool.and_self, splice, List.set_cons_zero, List.set_cons_succ, List.getElem?_cons_zero, List.getElem?_cons_succ, vc_int, vc_slice, vc_str, vc_bool, vc_int', vc_slice', vc_str', vc_bool', List.length_set, List.length_append, Nat.lt_irrefl, Nat.lt_add_one, and_self, true_and, and_true, lenV, cellsOfSlice, Nat.le_refl, if_true , h1, hsp, hwr, hst, h2, w1, shr64i n m (by omega), and64i _ hdiv, c1, hsh, w2, (show 2 ^ (m + 1 - 1) ≤ n by simpa using h3)]
      · have c1 : ¬ (((n / 2 ^ m % 2 : Nat) : Int) = 1) := by have := mt htb.1 h3; omega
        simp only [F27, ↓RW_seq, ↓AW_ret, ↓AW_skip, ↓AW_exit, ↓AW_block, ↓RW_cond, ↓RW_reg, ↓RW_regd, ↓RO_op, ↓RO_t, ↓RO_f, ↓RO_nt, ↓RO_nf, ↓AO_nil, ↓RD_op, ↓RD_t, ↓RD_f, ↓RD_nt, ↓RD_fe, ↓RD_nte, ↓RD_nf, ↓AOD_nil, CDops_eff, CDops_no, CDops_1, CDops_2, Again_nil, Again_cons, Same1_int, Same1_bool, Same1_str, Same1_ptr, Same1_slice, Same1_nil, CSeq_ap, CReg_ap, COps_ap, Then_normal, Then_ret, Then_exit, InBlock_normal, InBlock_ret, InBlock_self, InBlock_exit, Ends_ret, Ends_normal, ares, tup, finO_some, fin_same, fin_false, argsE, dval, aop, ev, evs, evo, evp, fillL, addrOf, intOf?, lk_put, lk_none, lk_cons, lk_nil, keep_nil, keep_cons, Op1_some, Option.map_some, Option.bind_some, reduceIte, Nat.reduceEqDiff, binV_lss, binV_leq, binV_gtr, binV_geq, binV_eql, binV_neq, binV_add, binV_sub, binV_mul, un_not, CondA_false, CondA_true, Bool.not_true, Bool.not_false, reduceCtorEq, decide_true, decide_false, Nat.add_zero, Nat.zero_add, Nat.reduceAdd, Nat.reduceMul, Bool.bne_false, Bool.bne_true, eqPtr, Option.isNone_some, Option.isNone_none, List.getElem?_cons_zero, List.getElem?_cons_succ, Option.isSome_none, Option.isSome_some , hload, hstore, List.length_cons, List.length_nil, Nat.reduceAdd, Nat.reduceLeDiff, decide_true, List.all_cons, List.all_nil, one, Bool.and_true, Bool.true_and, Bool.and_self, splice, List.set_cons_zero, List.set_cons_succ, List.getElem?_cons_zero, List.getElem?_cons_succ, vc_int, vc_slice, vc_str, vc_bool, vc_int', vc_slice', vc_str', vc_bool', List.length_set, List.length_append, Nat.lt_irrefl, Nat.lt_add_one, and_self, true_and, and_true, lenV, cellsOfSlice, Nat.le_refl, if_true , h1, hsp, hwr, hst, h2, w1, shr64i n m (by omega), and64i _ hdiv, c1, (show ¬ 2 ^ (m + 1 - 1) ≤ n by simpa using h3)]
    · simp only [F27, ↓RW_seq, ↓AW_ret, ↓AW_skip, ↓AW_exit, ↓AW_block, ↓RW_cond, ↓RW_reg, ↓RW_regd, ↓RO_op, ↓RO_t, ↓RO_f, ↓RO_nt, ↓RO_nf, ↓AO_nil, ↓RD_op, ↓RD_t, ↓RD_f, ↓RD_nt, ↓RD_fe, ↓RD_nte, ↓RD_nf, ↓AOD_nil, CDops_eff, CDops_no, CDops_1, CDops_2, Again_nil, Again_cons, Same1_int, Same1_bool, Same1_str, Same1_ptr, Same1_slice, Same1_nil, CSeq_ap, CReg_ap, COps_ap, Then_normal, Then_ret, Then_exit, InBlock_normal, InBlock_ret, InBlock_self, InBlock_exit, Ends_ret, Ends_normal, ares, tup, finO_some, fin_same, fin_false, argsE, dval, aop, ev, evs, evo, evp, fillL, addrOf, intOf?, lk_put, lk_none, lk_cons, lk_nil, keep_nil, keep_cons, Op1_some, Option.map_some, Option.bind_some, reduceIte, Nat.reduceEqDiff, binV_lss, binV_leq, binV_gtr, binV_geq, binV_eql, binV_neq, binV_add, binV_sub, binV_mul, un_not, CondA_false, CondA_true, Bool.not_true, Bool.not_false, reduceCtorEq, decide_true, decide_false, Nat.add_zero, Nat.zero_add, Nat.reduceAdd, Nat.reduceMul, Bool.bne_false, Bool.bne_true, eqPtr, Option.isNone_some, Option.isNone_none, List.getElem?_cons_zero, List.getElem?_cons_succ, Option.isSome_none, Option.isSome_some , hload, hstore, List.length_cons, List.length_nil, Nat.reduceAdd, Nat.reduceLeDiff, decide_true, List.all_cons, List.all_nil, one, Bool.and_true, Bool.true_and, Bool.and_self, splice, List.set_cons_zero, List.set_cons_succ, List.getElem?_cons_zero, List.getElem?_cons_succ, vc_int, vc_slice, vc_str, vc_bool, vc_int', vc_slice', vc_str', vc_bool', List.length_set, List.length_append, Nat.lt_irrefl, Nat.lt_add_one, and_self, true_and, and_true, lenV, cellsOfSlice, Nat.le_refl, if_true , h1, hsp, hwr, hst, h2, false_and, if_false]
  · have e1 : decide (2 ≤ w ∧ w ≤ 63) = false := by simp [h1]
    rw [e1] at hsp
    have h2 : ¬ r'.err = 0 := fun h2 => by have := (he0 h2).1; rw [e1] at this; simp at this
    simp only [F27, ↓RW_seq, ↓AW_ret, ↓AW_skip, ↓AW_exit, ↓AW_block, ↓RW_cond, ↓RW_reg, ↓RW_regd, ↓RO_op, ↓RO_t, ↓RO_f, ↓RO_nt, ↓RO_nf, ↓AO_nil, ↓RD_op, ↓RD_t, ↓RD_f, ↓RD_nt, ↓RD_fe, ↓RD_nte, ↓RD_nf, ↓AOD_nil, CDops_eff, CDops_no, CDops_1, CDops_2, Again_nil, Again_cons, Same1_int, Same1_bool, Same1_str, Same1_ptr, Same1_slice, Same1_nil, CSeq_ap, CReg_ap, COps_ap, Then_normal, Then_ret, Then_exit, InBlock_normal, InBlock_ret, InBlock_self, InBlock_exit, Ends_ret, Ends_normal, ares, tup, finO_some, fin_same, fin_false, argsE, dval, aop, ev, evs, evo, evp, fillL, addrOf, intOf?, lk_put, lk_none, lk_cons, lk_nil, keep_nil, keep_cons, Op1_some, Option.map_some, Option.bind_some, reduceIte, Nat.reduceEqDiff, binV_lss, binV_leq, binV_gtr, binV_geq, binV_eql, binV_neq, binV_add, binV_sub, binV_mul, un_not, CondA_false, CondA_true, Bool.not_true, Bool.not_false, reduceCtorEq, decide_true, decide_false, Nat.add_zero, Nat.zero_add, Nat.reduceAdd, Nat.reduceMul, Bool.bne_false, Bool.bne_true, eqPtr, Option.isNone_some, Option.isNone_none, List.getElem?_cons_zero, List.getElem?_cons_succ, Option.isSome_none, Option.isSome_some , hload, hstore, List.length_cons, List.length_nil, Nat.reduceAdd, Nat.reduceLeDiff, decide_true, List.all_cons, List.all_nil, one, Bool.and_true, Bool.true_and, Bool.and_self, splice, List.set_cons_zero, List.set_cons_succ, List.getElem?_cons_zero, List.getElem?_cons_succ, vc_int, vc_slice, vc_str, vc_bool, vc_int', vc_slice', vc_str', vc_bool', List.length_set, List.length_append, Nat.lt_irrefl, Nat.lt_add_one, and_self, true_and, and_true, lenV, cellsOfSlice, Nat.le_refl, if_true , h1, hsp, hwr, hst, h2, false_and, if_false]

end Go.Proofs.Ytlbhbjaimcinbaa.AI
