/- The reader's end. -/
import Derived.Test.YtlbhbjaimcinbaaR4
set_option linter.unusedSimpArgs false
namespace Go.Proofs.Ytlbhbjaimcinbaa.AI
open Go

def RS.close (r : RS) : Int := if r.err ≠ 0 then r.err else if 8 ≤ r.left then 10 else if valOf r.s r.at_ r.left.toNat ≠ 0 then 10 else 0

theorem vc_ptr' (a : Option Addr) : (Value.pointer a).cells.toList = [.pointer a] := rfl
theorem set_last {H : Heap} {x y : Option Blk} : (H ++ [x]).set H.length y = H ++ [y] := by rw [List.set_append_right _ _ (Nat.le_refl _)]; simp
theorem vc_agg' (cs : Array Value) : (Value.agg cs).cells = cs := rfl

theorem ones_spec {H : Heap} {b p : Nat} {r : RS} (hb : hget H b = some ⟨true, [.pointer (some ⟨p, 0, none⟩)]⟩) (h : RSt H p r) (ho : r.Ok) (he : r.err = 0) (hl : ¬ 8 ≤ r.left) {K : Value → Heap → Prop}
    (hk : ∀ H', Frm [] H H' → K (.bool (decide (valOf r.s r.at_ r.left.toNat ≠ 0))) H') : Op1 (AC tbl 47 [.pointer (some ⟨b, 0, none⟩)] H) K := by
  apply AC_wp (F := F47) rfl (by simp [F47]) (.inl rfl)
  have hc := cells_get h
  have hbl := hget_lt hb
  have hpl := h.lt
  have h1 := ho.at_le
  have h2 := ho.size
  have hleft : r.left = ((8 * r.s.size - r.at_ : Nat) : Int) := by unfold RS.left; rw [if_pos he]; omega
  have hst : RSt (H ++ [some ⟨true, r.cells⟩]) H.length r := by unfold RSt; exact hget_append_self
  have hstp : RSt (H ++ [some ⟨true, r.cells⟩]) p r := by unfold RSt; rw [hget_append_lt hpl]; exact h
  have hsp := left_spec hstp ho
  rw [hleft] at hl hk hsp
  simp only [Int.toNat_natCast] at hk
  have hg := get_spec (w := 8 * r.s.size - r.at_) hst (by omega) (by omega) (by omega)
  have hcell : r.cells = [.string r.s, .int .i64 (r.at_ : Int), .int .i64 r.err] := rfl
  rw [hcell] at hsp hg
  have e3 : ∀ a b c : Value, List.take 3 (List.drop 0 [a, b, c]) = [a, b, c] := fun _ _ _ => rfl
  have e4 : ∀ a b c : Value, (#[a, b, c] : Array Value).size = 3 := fun _ _ _ => rfl
  have hbit : (decide (¬ (((valOf r.s r.at_ (8 * r.s.size - r.at_) : Nat) : Int) = 0))) = decide (valOf r.s r.at_ (8 * r.s.size - r.at_) ≠ 0) := by simp only [decide_eq_decide]; omega
  simp only [F47, ↓RW_seq, ↓AW_ret, ↓AW_skip, ↓AW_exit, ↓AW_block, ↓RW_cond, ↓RW_reg, ↓RW_regd, ↓RO_op, ↓RO_t, ↓RO_f, ↓RO_nt, ↓RO_nf, ↓AO_nil, ↓RD_op, ↓RD_t, ↓RD_f, ↓RD_nt, ↓RD_fe, ↓RD_nte, ↓RD_nf, ↓AOD_nil, CDops_eff, CDops_no, CDops_1, CDops_2, Again_nil, Again_cons, Same1_int, Same1_bool, Same1_str, Same1_ptr, Same1_slice, Same1_nil, CSeq_ap, CReg_ap, COps_ap, Then_normal, Then_ret, Then_exit, InBlock_normal, InBlock_ret, InBlock_self, InBlock_exit, Ends_ret, Ends_normal, ares, tup, finO_some, fin_same, fin_false, argsE, dval, aop, ev, evs, evo, evp, fillL, addrOf, intOf?, lk_put, lk_none, lk_cons, lk_nil, keep_nil, keep_cons, Op1_some, Option.map_some, Option.bind_some, reduceIte, Nat.reduceEqDiff, binV_lss, binV_leq, binV_gtr, binV_geq, binV_eql, binV_neq, binV_add, binV_sub, binV_mul, un_not, CondA_false, CondA_true, Bool.not_true, Bool.not_false, reduceCtorEq, decide_true, decide_false, Nat.add_zero, Nat.zero_add, Nat.reduceAdd, Nat.reduceMul, Bool.bne_false, Bool.bne_true, eqPtr, Option.isNone_some, Option.isNone_none, List.getElem?_cons_zero, List.getElem?_cons_succ, Option.isSome_none, Option.isSome_some , hload, hstore, List.length_cons, List.length_nil, Nat.reduceAdd, Nat.reduceLeDiff, decide_true, List.all_cons, List.all_nil, one, Bool.and_true, Bool.true_and, Bool.and_self, splice, List.set_cons_zero, List.set_cons_succ, List.getElem?_cons_zero, List.getElem?_cons_succ, vc_int, vc_slice, vc_str, vc_bool, vc_int', vc_slice', vc_str', vc_bool', List.length_set, List.length_append, Nat.lt_irrefl, Nat.lt_add_one, and_self, true_and, and_true, lenV, cellsOfSlice, Nat.le_refl, if_true , hb, hc, e3, vc_agg', e4, hget_append_self, set_last, hget_lt_app, hbl, hsp, hg, ne_eq, hbit]
  exact hk _ (((Frm.refl [] H).push _).set (i := H.length) _ (.inr (Nat.le_refl _)))

theorem close_spec {H : Heap} {p : Nat} {r : RS} (h : RSt H p r) (ho : r.Ok) {K : Value → Heap → Prop} (hk : ∀ H', Frm [] H H' → K (.int .i64 r.close) H') : Op1 (AC tbl 23 [.pointer (some ⟨p, 0, none⟩)] H) K := by
  apply AC_wp (F := F23) rfl (by simp [F23]) (.inl rfl)
  have hpl := h.lt
  have hstp : RSt (H ++ [some ⟨true, [.pointer (some ⟨p, 0, none⟩)]⟩]) p r := by unfold RSt; rw [hget_append_lt hpl]; exact h
  have hc := cells_get hstp
  have hsp := left_spec hstp ho
  by_cases h1 : r.err = 0
  · by_cases h2 : 8 ≤ r.left
    · simp only [F23, ↓RW_seq, ↓AW_ret, ↓AW_skip, ↓AW_exit, ↓AW_block, ↓RW_cond, ↓RW_reg, ↓RW_regd, ↓RO_op, ↓RO_t, ↓RO_f, ↓RO_nt, ↓RO_nf, ↓AO_nil, ↓RD_op, ↓RD_t, ↓RD_f, ↓RD_nt, ↓RD_fe, ↓RD_nte, ↓RD_nf, ↓AOD_nil, CDops_eff, CDops_no, CDops_1, CDops_2, Again_nil, Again_cons, Same1_int, Same1_bool, Same1_str, Same1_ptr, Same1_slice, Same1_nil, CSeq_ap, CReg_ap, COps_ap, Then_normal, Then_ret, Then_exit, InBlock_normal, InBlock_ret, InBlock_self, InBlock_exit, Ends_ret, Ends_normal, ares, tup, finO_some, fin_same, fin_false, argsE, dval, aop, ev, evs, evo, evp, fillL, addrOf, intOf?, lk_put, lk_none, lk_cons, lk_nil, keep_nil, keep_cons, Op1_some, Option.map_some, Option.bind_some, reduceIte, Nat.reduceEqDiff, binV_lss, binV_leq, binV_gtr, binV_geq, binV_eql, binV_neq, binV_add, binV_sub, binV_mul, un_not, CondA_false, CondA_true, Bool.not_true, Bool.not_false, reduceCtorEq, decide_true, decide_false, Nat.add_zero, Nat.zero_add, Nat.reduceAdd, Nat.reduceMul, Bool.bne_false, Bool.bne_true, eqPtr, Option.isNone_some, Option.isNone_none, List.getElem?_cons_zero, List.getElem?_cons_succ, Option.isSome_none, Option.isSome_some , hload, hstore, List.length_cons, List.length_nil, Nat.reduceAdd, Nat.reduceLeDiff, decide_true, List.all_cons, List.all_nil, one, Bool.and_true, Bool.true_and, Bool.and_self, splice, List.set_cons_zero, List.set_cons_succ, List.getElem?_cons_zero, List.getElem?_cons_succ, vc_int, vc_slice, vc_str, vc_bool, vc_int', vc_slice', vc_str', vc_bool', List.length_set, List.length_append, Nat.lt_irrefl, Nat.lt_add_one, and_self, true_and, and_true, lenV, cellsOfSlice, Nat.le_refl, if_true , vc_ptr', hget_append_self, hc, h1, ne_eq, not_true_eq_false, hsp, h2]
      have : r.close = 10 := by simp [RS.close, h1, h2]
      rw [← this]
      exact hk _ ((Frm.refl _ _).push _)
    · have happ : ∀ v : Value, (#[] : Array Value).toList ++ ([] : List Value) ++ #[v].toList = [v] := fun _ => rfl
      simp only [F23, ↓RW_seq, ↓AW_ret, ↓AW_skip, ↓AW_exit, ↓AW_block, ↓RW_cond, ↓RW_reg, ↓RW_regd, ↓RO_op, ↓RO_t, ↓RO_f, ↓RO_nt, ↓RO_nf, ↓AO_nil, ↓RD_op, ↓RD_t, ↓RD_f, ↓RD_nt, ↓RD_fe, ↓RD_nte, ↓RD_nf, ↓AOD_nil, CDops_eff, CDops_no, CDops_1, CDops_2, Again_nil, Again_cons, Same1_int, Same1_bool, Same1_str, Same1_ptr, Same1_slice, Same1_nil, CSeq_ap, CReg_ap, COps_ap, Then_normal, Then_ret, Then_exit, InBlock_normal, InBlock_ret, InBlock_self, InBlock_exit, Ends_ret, Ends_normal, ares, tup, finO_some, fin_same, fin_false, argsE, dval, aop, ev, evs, evo, evp, fillL, addrOf, intOf?, lk_put, lk_none, lk_cons, lk_nil, keep_nil, keep_cons, Op1_some, Option.map_some, Option.bind_some, reduceIte, Nat.reduceEqDiff, binV_lss, binV_leq, binV_gtr, binV_geq, binV_eql, binV_neq, binV_add, binV_sub, binV_mul, un_not, CondA_false, CondA_true, Bool.not_true, Bool.not_false, reduceCtorEq, decide_true, decide_false, Nat.add_zero, Nat.zero_add, Nat.reduceAdd, Nat.reduceMul, Bool.bne_false, Bool.bne_true, eqPtr, Option.isNone_some, Option.isNone_none, List.getElem?_cons_zero, List.getElem?_cons_succ, Option.isSome_none, Option.isSome_some , hload, hstore, List.length_cons, List.length_nil, Nat.reduceAdd, Nat.reduceLeDiff, decide_true, List.all_cons, List.all_nil, one, Bool.and_true, Bool.true_and, Bool.and_self, splice, List.set_cons_zero, List.set_cons_succ, List.getElem?_cons_zero, List.getElem?_cons_succ, vc_int, vc_slice, vc_str, vc_bool, vc_int', vc_slice', vc_str', vc_bool', List.length_set, List.length_append, Nat.lt_irrefl, Nat.lt_add_one, and_self, true_and, and_true, lenV, cellsOfSlice, Nat.le_refl, if_true , vc_ptr', hget_append_self, hc, h1, ne_eq, not_true_eq_false, hsp, h2, happ]
      refine ones_spec hget_append_self hstp ho h1 h2 fun H1 hf => ?_
      by_cases h3 : valOf r.s r.at_ r.left.toNat = 0
      · have : r.close = 0 := by simp only [RS.close, h1, h2, h3]; simp
        simp only [↓RW_seq, ↓AW_ret, ↓AW_skip, ↓AW_exit, ↓AW_block, ↓RW_cond, ↓RW_reg, ↓RW_regd, ↓RO_op, ↓RO_t, ↓RO_f, ↓RO_nt, ↓RO_nf, ↓AO_nil, ↓RD_op, ↓RD_t, ↓RD_f, ↓RD_nt, ↓RD_fe, ↓RD_nte, ↓RD_nf, ↓AOD_nil, CDops_eff, CDops_no, CDops_1, CDops_2, Again_nil, Again_cons, Same1_int, Same1_bool, Same1_str, Same1_ptr, Same1_slice, Same1_nil, CSeq_ap, CReg_ap, COps_ap, Then_normal, Then_ret, Then_exit, InBlock_normal, InBlock_ret, InBlock_self, InBlock_exit, Ends_ret, Ends_normal, ares, tup, finO_some, fin_same, fin_false, argsE, dval, aop, ev, evs, evo, evp, fillL, addrOf, intOf?, lk_put, lk_none, lk_cons, lk_nil, keep_nil, keep_cons, Op1_some, Option.map_some, Option.bind_some, reduceIte, Nat.reduceEqDiff, binV_lss, binV_leq, binV_gtr, binV_geq, binV_eql, binV_neq, binV_add, binV_sub, binV_mul, un_not, CondA_false, CondA_true, Bool.not_true, Bool.not_false, reduceCtorEq, decide_true, decide_false, Nat.add_zero, Nat.zero_add, Nat.reduceAdd, Nat.reduceMul, Bool.bne_false, Bool.bne_true, eqPtr, Option.isNone_some, Option.isNone_none, List.getElem?_cons_zero, List.getElem?_cons_succ, Option.isSome_none, Option.isSome_some , h3, ne_eq, not_true_eq_false]
        rw [← this]
        exact hk _ (((Frm.refl _ _).push _).trans hf (by simp))
      · have : r.close = 10 := by simp [RS.close, h1, h2, h3]
        simp only [↓RW_seq, ↓AW_ret, ↓AW_skip, ↓AW_exit, ↓AW_block, ↓RW_cond, ↓RW_reg, ↓RW_regd, ↓RO_op, ↓RO_t, ↓RO_f, ↓RO_nt, ↓RO_nf, ↓AO_nil, ↓RD_op, ↓RD_t, ↓RD_f, ↓RD_nt, ↓RD_fe, ↓RD_nte, ↓RD_nf, ↓AOD_nil, CDops_eff, CDops_no, CDops_1, CDops_2, Again_nil, Again_cons, Same1_int, Same1_bool, Same1_str, Same1_ptr, Same1_slice, Same1_nil, CSeq_ap, CReg_ap, COps_ap, Then_normal, Then_ret, Then_exit, InBlock_normal, InBlock_ret, InBlock_self, InBlock_exit, Ends_ret, Ends_normal, ares, tup, finO_some, fin_same, fin_false, argsE, dval, aop, ev, evs, evo, evp, fillL, addrOf, intOf?, lk_put, lk_none, lk_cons, lk_nil, keep_nil, keep_cons, Op1_some, Option.map_some, Option.bind_some, reduceIte, Nat.reduceEqDiff, binV_lss, binV_leq, binV_gtr, binV_geq, binV_eql, binV_neq, binV_add, binV_sub, binV_mul, un_not, CondA_false, CondA_true, Bool.not_true, Bool.not_false, reduceCtorEq, decide_true, decide_false, Nat.add_zero, Nat.zero_add, Nat.reduceAdd, Nat.reduceMul, Bool.bne_false, Bool.bne_true, eqPtr, Option.isNone_some, Option.isNone_none, List.getElem?_cons_zero, List.getElem?_cons_succ, Option.isSome_none, Option.isSome_some , h3, ne_eq, not_false_eq_true]
        rw [← this]
        exact hk _ (((Frm.refl _ _).push _).trans hf (by simp))
  · simp only [F23, ↓RW_seq, ↓AW_ret, ↓AW_skip, ↓AW_exit, ↓AW_block, ↓RW_cond, ↓RW_reg, ↓RW_regd, ↓RO_op, ↓RO_t, ↓RO_f, ↓RO_nt, ↓RO_nf, ↓AO_nil, ↓RD_op, ↓RD_t, ↓RD_f, ↓RD_nt, ↓RD_fe, ↓RD_nte, ↓RD_nf, ↓AOD_nil, CDops_eff, CDops_no, CDops_1, CDops_2, Again_nil, Again_cons, Same1_int, Same1_bool, Same1_str, Same1_ptr, Same1_slice, Same1_nil, CSeq_ap, CReg_ap, COps_ap, Then_normal, Then_ret, Then_exit, InBlock_normal, InBlock_ret, InBlock_self, InBlock_exit, Ends_ret, Ends_normal, ares, tup, finO_some, fin_same, fin_false, argsE, dval, aop, ev, evs, evo, evp, fillL, addrOf, intOf?, lk_put, lk_none, lk_cons, lk_nil, keep_nil, keep_cons, Op1_some, Option.map_some, Option.bind_some, reduceIte, Nat.reduceEqDiff, binV_lss, binV_leq, binV_gtr, binV_geq, binV_eql, binV_neq, binV_add, binV_sub, binV_mul, un_not, CondA_false, CondA_true, Bool.not_true, Bool.not_false, reduceCtorEq, decide_true, decide_false, Nat.add_zero, Nat.zero_add, Nat.reduceAdd, Nat.reduceMul, Bool.bne_false, Bool.bne_true, eqPtr, Option.isNone_some, Option.isNone_none, List.getElem?_cons_zero, List.getElem?_cons_succ, Option.isSome_none, Option.isSome_some , hload, hstore, List.length_cons, List.length_nil, Nat.reduceAdd, Nat.reduceLeDiff, decide_true, List.all_cons, List.all_nil, one, Bool.and_true, Bool.true_and, Bool.and_self, splice, List.set_cons_zero, List.set_cons_succ, List.getElem?_cons_zero, List.getElem?_cons_succ, vc_int, vc_slice, vc_str, vc_bool, vc_int', vc_slice', vc_str', vc_bool', List.length_set, List.length_append, Nat.lt_irrefl, Nat.lt_add_one, and_self, true_and, and_true, lenV, cellsOfSlice, Nat.le_refl, if_true , vc_ptr', hget_append_self, hc, h1, ne_eq, not_false_eq_true]
    have : r.close = r.err := by simp [RS.close, h1]
    rw [← this]
    exact hk _ ((Frm.refl _ _).push _)

end Go.Proofs.Ytlbhbjaimcinbaa.AI
