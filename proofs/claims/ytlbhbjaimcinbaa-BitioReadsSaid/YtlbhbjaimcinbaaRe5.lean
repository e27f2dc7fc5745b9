/- BitioReads holds, whatever the input. -/
import Derived.Calls
import Derived.Orders
import Derived.RowKit3
import Derived.KernelRfl
import Derived.WalkKit
import Derived.Laws.IdiomStrings
import Derived.Laws.StructEq
import Derived.LoopN
import Derived.Test.YtlbhbjaimcinbaaRows
import Derived.ProofKit
import Derived.OpenShut
import Derived.ChangeMaps5
import Derived.Test.YtlbhbjaimcinbaaRe4
/- BitioReads in the interpreter. -/
set_option linter.unusedSimpArgs false
namespace Go.Proofs.Ytlbhbjaimcinbaa.AI
open Go

theorem ba_beq (s : ByteArray) : (s == s) = true := by
  cases s with
  | mk d =>
    show (d == d) = true
    simp
theorem hget_app2 {H : Heap} {a b : Option Blk} : hget (H ++ [a] ++ [b]) (H.length + 1) = b := by rw [hget_app]; simp
theorem set_app2 {H : Heap} {a b y : Option Blk} : (H ++ [a] ++ [b]).set (H.length + 1) y = H ++ [a] ++ [y] := by
  simp
theorem eqL_fld (f : Fld) : eqL [.int, .int, .int, .str] [.int .i64 f.kind, .int .i64 f.width, .int .i64 f.n, .string f.s] [.int .i64 f.kind, .int .i64 f.width, .int .i64 f.n, .string f.s] = some true := by
  simp [eqL, eq1, ba_beq]
theorem eqL_v (k w n : Int) (s : ByteArray) : eqL [.int, .int, .int, .str] [.int .i64 k, .int .i64 w, .int .i64 n, .string s] [.int .i64 k, .int .i64 w, .int .i64 n, .string s] = some true := eqL_fld ⟨k, w, n, s⟩
theorem agg4 (a b c d : Value) : (#[a, b, c, d] : Array Value).toList = [a, b, c, d] := rfl

set_option maxHeartbeats 4000000 in
theorem reads {H : Heap} {v : Value} {l : List Fld} {data : ByteArray} (hla : LA H v l) (hok : ∀ f ∈ l, Is64 f.kind ∧ Is64 f.width ∧ Is64 f.n) : Op1 (AC tbl 7 [.string data, v] H) fun r _ => r = .bool true := by
  apply AC_wp (F := F7) rfl (by simp [F7]) (.inl rfl)
  by_cases h300 : (300 : Int) < (data.size : Int)
  · simp only [F7, ↓RW_seq, ↓AW_ret, ↓AW_skip, ↓AW_exit, ↓AW_block, ↓RW_cond, ↓RW_reg, ↓RW_regd, ↓RO_op, ↓RO_t, ↓RO_f, ↓RO_nt, ↓RO_nf, ↓RO_u, ↓AO_nil, ↓RD_op, ↓RD_t, ↓RD_f, ↓RD_nt, ↓RD_fe, ↓RD_nte, ↓RD_nf, ↓RD_u, ↓AOD_nil, CDops_eff, CDops_no, CDops_1, CDops_2, Again_nil, Again_cons, Same1_int, Same1_bool, Same1_str, Same1_ptr, Same1_slice, Same1_nil, CSeq_ap, CReg_ap, COps_ap, Then_normal, Then_ret, Then_exit, InBlock_normal, InBlock_ret, InBlock_self, InBlock_exit, Ends_ret, Ends_normal, ares, tup, finO_some, fin_same, fin_false, argsE, dval, aop, ev, evs, evo, evp, fillL, addrOf, intOf?, lk_put, lk_none, lk_cons, lk_nil, keep_nil, keep_cons, Op1_some, Option.map_some, Option.bind_some, reduceIte, Nat.reduceEqDiff, binV_lss, binV_leq, binV_gtr, binV_geq, binV_eql, binV_neq, binV_add, binV_sub, binV_mul, un_not, CondA_false, CondA_true, Bool.not_true, Bool.not_false, reduceCtorEq, decide_true, decide_false, Nat.add_zero, Nat.zero_add, Nat.reduceAdd, Nat.reduceMul, Bool.bne_false, Bool.bne_true, eqPtr, Option.isNone_some, Option.isNone_none, List.getElem?_cons_zero, List.getElem?_cons_succ, Option.isSome_none, Option.isSome_some , hload, hstore, List.length_cons, List.length_nil, Nat.reduceAdd, Nat.reduceLeDiff, decide_true, List.all_cons, List.all_nil, one, Bool.and_true, Bool.true_and, Bool.and_self, splice, List.set_cons_zero, List.set_cons_succ, List.getElem?_cons_zero, List.getElem?_cons_succ, vc_int, vc_slice, vc_str, vc_bool, vc_int', vc_slice', vc_str', vc_bool', List.length_set, List.length_append, Nat.lt_irrefl, Nat.lt_add_one, and_self, true_and, and_true, lenV, cellsOfSlice, Nat.le_refl, if_true , awake_any, h300]
  · simp only [F7, ↓RW_seq, ↓AW_ret, ↓AW_skip, ↓AW_exit, ↓AW_block, ↓RW_cond, ↓RW_reg, ↓RW_regd, ↓RO_op, ↓RO_t, ↓RO_f, ↓RO_nt, ↓RO_nf, ↓RO_u, ↓AO_nil, ↓RD_op, ↓RD_t, ↓RD_f, ↓RD_nt, ↓RD_fe, ↓RD_nte, ↓RD_nf, ↓RD_u, ↓AOD_nil, CDops_eff, CDops_no, CDops_1, CDops_2, Again_nil, Again_cons, Same1_int, Same1_bool, Same1_str, Same1_ptr, Same1_slice, Same1_nil, CSeq_ap, CReg_ap, COps_ap, Then_normal, Then_ret, Then_exit, InBlock_normal, InBlock_ret, InBlock_self, InBlock_exit, Ends_ret, Ends_normal, ares, tup, finO_some, fin_same, fin_false, argsE, dval, aop, ev, evs, evo, evp, fillL, addrOf, intOf?, lk_put, lk_none, lk_cons, lk_nil, keep_nil, keep_cons, Op1_some, Option.map_some, Option.bind_some, reduceIte, Nat.reduceEqDiff, binV_lss, binV_leq, binV_gtr, binV_geq, binV_eql, binV_neq, binV_add, binV_sub, binV_mul, un_not, CondA_false, CondA_true, Bool.not_true, Bool.not_false, reduceCtorEq, decide_true, decide_false, Nat.add_zero, Nat.zero_add, Nat.reduceAdd, Nat.reduceMul, Bool.bne_false, Bool.bne_true, eqPtr, Option.isNone_some, Option.isNone_none, List.getElem?_cons_zero, List.getElem?_cons_succ, Option.isSome_none, Option.isSome_some , hload, hstore, List.length_cons, List.length_nil, Nat.reduceAdd, Nat.reduceLeDiff, decide_true, List.all_cons, List.all_nil, one, Bool.and_true, Bool.true_and, Bool.and_self, splice, List.set_cons_zero, List.set_cons_succ, List.getElem?_cons_zero, List.getElem?_cons_succ, vc_int, vc_slice, vc_str, vc_bool, vc_int', vc_slice', vc_str', vc_bool', List.length_set, List.length_append, Nat.lt_irrefl, Nat.lt_add_one, and_self, true_and, and_true, lenV, cellsOfSlice, Nat.le_refl, if_true , awake_any, h300]
    refine few_spec hla fun H1 hf1 => ?_
    cases hfew : fewB l with
    | false => simp only [↓RW_seq, ↓AW_ret, ↓AW_skip, ↓AW_exit, ↓AW_block, ↓RW_cond, ↓RW_reg, ↓RW_regd, ↓RO_op, ↓RO_t, ↓RO_f, ↓RO_nt, ↓RO_nf, ↓RO_u, ↓AO_nil, ↓RD_op, ↓RD_t, ↓RD_f, ↓RD_nt, ↓RD_fe, ↓RD_nte, ↓RD_nf, ↓RD_u, ↓AOD_nil, CDops_eff, CDops_no, CDops_1, CDops_2, Again_nil, Again_cons, Same1_int, Same1_bool, Same1_str, Same1_ptr, Same1_slice, Same1_nil, CSeq_ap, CReg_ap, COps_ap, Then_normal, Then_ret, Then_exit, InBlock_normal, InBlock_ret, InBlock_self, InBlock_exit, Ends_ret, Ends_normal, ares, tup, finO_some, fin_same, fin_false, argsE, dval, aop, ev, evs, evo, evp, fillL, addrOf, intOf?, lk_put, lk_none, lk_cons, lk_nil, keep_nil, keep_cons, Op1_some, Option.map_some, Option.bind_some, reduceIte, Nat.reduceEqDiff, binV_lss, binV_leq, binV_gtr, binV_geq, binV_eql, binV_neq, binV_add, binV_sub, binV_mul, un_not, CondA_false, CondA_true, Bool.not_true, Bool.not_false, reduceCtorEq, decide_true, decide_false, Nat.add_zero, Nat.zero_add, Nat.reduceAdd, Nat.reduceMul, Bool.bne_false, Bool.bne_true, eqPtr, Option.isNone_some, Option.isNone_none, List.getElem?_cons_zero, List.getElem?_cons_succ, Option.isSome_none, Option.isSome_some , hload, hstore, List.length_cons, List.length_nil, Nat.reduceAdd, Nat.reduceLeDiff, decide_true, List.all_cons, List.all_nil, one, Bool.and_true, Bool.true_and, Bool.and_self, splice, List.set_cons_zero, List.set_cons_succ, List.getElem?_cons_zero, List.getElem?_cons_succ, vc_int, vc_slice, vc_str, vc_bool, vc_int', vc_slice', vc_str', vc_bool', List.length_set, List.length_append, Nat.lt_irrefl, Nat.lt_add_one, and_self, true_and, and_true, lenV, cellsOfSlice, Nat.le_refl, if_true ]
    | true =>
      obtain ⟨b, z, rfl, hb⟩ := hla.lb
      have hsh : ∀ f ∈ l, f.s.size ≤ 200 := by
        simp only [fewB, Bool.and_eq_true, List.all_eq_true, decide_eq_true_eq] at hfew
        exact hfew.2
      have hl40 : l.length ≤ 40 := by
        simp only [fewB, Bool.and_eq_true, List.all_eq_true, decide_eq_true_eq] at hfew
        exact hfew.1
      have hp0 : H.length ≤ H1.length := hf1.1
      simp only [↓RW_seq, ↓AW_ret, ↓AW_skip, ↓AW_exit, ↓AW_block, ↓RW_cond, ↓RW_reg, ↓RW_regd, ↓RO_op, ↓RO_t, ↓RO_f, ↓RO_nt, ↓RO_nf, ↓RO_u, ↓AO_nil, ↓RD_op, ↓RD_t, ↓RD_f, ↓RD_nt, ↓RD_fe, ↓RD_nte, ↓RD_nf, ↓RD_u, ↓AOD_nil, CDops_eff, CDops_no, CDops_1, CDops_2, Again_nil, Again_cons, Same1_int, Same1_bool, Same1_str, Same1_ptr, Same1_slice, Same1_nil, CSeq_ap, CReg_ap, COps_ap, Then_normal, Then_ret, Then_exit, InBlock_normal, InBlock_ret, InBlock_self, InBlock_exit, Ends_ret, Ends_normal, ares, tup, finO_some, fin_same, fin_false, argsE, dval, aop, ev, evs, evo, evp, fillL, addrOf, intOf?, lk_put, lk_none, lk_cons, lk_nil, keep_nil, keep_cons, Op1_some, Option.map_some, Option.bind_some, reduceIte, Nat.reduceEqDiff, binV_lss, binV_leq, binV_gtr, binV_geq, binV_eql, binV_neq, binV_add, binV_sub, binV_mul, un_not, CondA_false, CondA_true, Bool.not_true, Bool.not_false, reduceCtorEq, decide_true, decide_false, Nat.add_zero, Nat.zero_add, Nat.reduceAdd, Nat.reduceMul, Bool.bne_false, Bool.bne_true, eqPtr, Option.isNone_some, Option.isNone_none, List.getElem?_cons_zero, List.getElem?_cons_succ, Option.isSome_none, Option.isSome_some , hload, hstore, List.length_cons, List.length_nil, Nat.reduceAdd, Nat.reduceLeDiff, decide_true, List.all_cons, List.all_nil, one, Bool.and_true, Bool.true_and, Bool.and_self, splice, List.set_cons_zero, List.set_cons_succ, List.getElem?_cons_zero, List.getElem?_cons_succ, vc_int, vc_slice, vc_str, vc_bool, vc_int', vc_slice', vc_str', vc_bool', List.length_set, List.length_append, Nat.lt_irrefl, Nat.lt_add_one, and_self, true_and, and_true, lenV, cellsOfSlice, Nat.le_refl, if_true , newReader_eq, newX_eq]
      apply AW_loop_inv (fun j e H2 => j ≤ l.length ∧ e = [(5, .pointer (some ⟨H1.length, 0, none⟩)), (6, .pointer (some ⟨H1.length + 1, 0, none⟩)), (27, .slice b l.length z), (28, .int .i64 (l.length : Int)), (29, .int .i64 ((l.length - j : Nat) : Int))] ∧
        ∃ (r : RS), RSt H2 H1.length r ∧ RSt H2 (H1.length + 1) r.x ∧ r.Ok ∧ LB H2 b z l H.length) _ l.length
      · refine ⟨Nat.le_refl _, by rw [Nat.sub_self]; rfl, newR data, ?_, ?_, newR_ok _, ?_⟩
        · unfold RSt; rw [hget_append_lt (by simp)]; exact hget_append_self
        · unfold RSt
          exact hget_app2
        · exact ((hb.frame hf1 (by simp)).frame (O := []) ((Frm.refl _ _).push _) (by simp)).frame (O := []) ((Frm.refl _ _).push _) (by simp)
      · rintro j e H2 ⟨hj, rfl, r, hr, hx, hro, hlb⟩
        cases j with
        | zero =>
          have g0 : ¬ (l.length : Int) < (l.length : Int) := by omega
          simp only [↓RW_seq, ↓AW_ret, ↓AW_skip, ↓AW_exit, ↓AW_block, ↓RW_cond, ↓RW_reg, ↓RW_regd, ↓RO_op, ↓RO_t, ↓RO_f, ↓RO_nt, ↓RO_nf, ↓RO_u, ↓AO_nil, ↓RD_op, ↓RD_t, ↓RD_f, ↓RD_nt, ↓RD_fe, ↓RD_nte, ↓RD_nf, ↓RD_u, ↓AOD_nil, CDops_eff, CDops_no, CDops_1, CDops_2, Again_nil, Again_cons, Same1_int, Same1_bool, Same1_str, Same1_ptr, Same1_slice, Same1_nil, CSeq_ap, CReg_ap, COps_ap, Then_normal, Then_ret, Then_exit, InBlock_normal, InBlock_ret, InBlock_self, InBlock_exit, Ends_ret, Ends_normal, ares, tup, finO_some, fin_same, fin_false, argsE, dval, aop, ev, evs, evo, evp, fillL, addrOf, intOf?, lk_put, lk_none, lk_cons, lk_nil, keep_nil, keep_cons, Op1_some, Option.map_some, Option.bind_some, reduceIte, Nat.reduceEqDiff, binV_lss, binV_leq, binV_gtr, binV_geq, binV_eql, binV_neq, binV_add, binV_sub, binV_mul, un_not, CondA_false, CondA_true, Bool.not_true, Bool.not_false, reduceCtorEq, decide_true, decide_false, Nat.add_zero, Nat.zero_add, Nat.reduceAdd, Nat.reduceMul, Bool.bne_false, Bool.bne_true, eqPtr, Option.isNone_some, Option.isNone_none, List.getElem?_cons_zero, List.getElem?_cons_succ, Option.isSome_none, Option.isSome_some , hload, hstore, List.length_cons, List.length_nil, Nat.reduceAdd, Nat.reduceLeDiff, decide_true, List.all_cons, List.all_nil, one, Bool.and_true, Bool.true_and, Bool.and_self, splice, List.set_cons_zero, List.set_cons_succ, List.getElem?_cons_zero, List.getElem?_cons_succ, vc_int, vc_slice, vc_str, vc_bool, vc_int', vc_slice', vc_str', vc_bool', List.length_set, List.length_append, Nat.lt_irrefl, Nat.lt_add_one, and_self, true_and, and_true, lenV, cellsOfSlice, Nat.le_refl, if_true , g0, Nat.sub_zero, left_spec hr hro, xleft_spec hx hro]
          refine close_spec hr hro fun H5 hf5 => ?_
          have hx5 : RSt H5 (H1.length + 1) r.x := by unfold RSt; rw [hf5.2 _ hx.lt (by simp)]; exact hx
          simp only [↓RW_seq, ↓AW_ret, ↓AW_skip, ↓AW_exit, ↓AW_block, ↓RW_cond, ↓RW_reg, ↓RW_regd, ↓RO_op, ↓RO_t, ↓RO_f, ↓RO_nt, ↓RO_nf, ↓RO_u, ↓AO_nil, ↓RD_op, ↓RD_t, ↓RD_f, ↓RD_nt, ↓RD_fe, ↓RD_nte, ↓RD_nf, ↓RD_u, ↓AOD_nil, CDops_eff, CDops_no, CDops_1, CDops_2, Again_nil, Again_cons, Same1_int, Same1_bool, Same1_str, Same1_ptr, Same1_slice, Same1_nil, CSeq_ap, CReg_ap, COps_ap, Then_normal, Then_ret, Then_exit, InBlock_normal, InBlock_ret, InBlock_self, InBlock_exit, Ends_ret, Ends_normal, ares, tup, finO_some, fin_same, fin_false, argsE, dval, aop, ev, evs, evo, evp, fillL, addrOf, intOf?, lk_put, lk_none, lk_cons, lk_nil, keep_nil, keep_cons, Op1_some, Option.map_some, Option.bind_some, reduceIte, Nat.reduceEqDiff, binV_lss, binV_leq, binV_gtr, binV_geq, binV_eql, binV_neq, binV_add, binV_sub, binV_mul, un_not, CondA_false, CondA_true, Bool.not_true, Bool.not_false, reduceCtorEq, decide_true, decide_false, Nat.add_zero, Nat.zero_add, Nat.reduceAdd, Nat.reduceMul, Bool.bne_false, Bool.bne_true, eqPtr, Option.isNone_some, Option.isNone_none, List.getElem?_cons_zero, List.getElem?_cons_succ, Option.isSome_none, Option.isSome_some , hload, hstore, List.length_cons, List.length_nil, Nat.reduceAdd, Nat.reduceLeDiff, decide_true, List.all_cons, List.all_nil, one, Bool.and_true, Bool.true_and, Bool.and_self, splice, List.set_cons_zero, List.set_cons_succ, List.getElem?_cons_zero, List.getElem?_cons_succ, vc_int, vc_slice, vc_str, vc_bool, vc_int', vc_slice', vc_str', vc_bool', List.length_set, List.length_append, Nat.lt_irrefl, Nat.lt_add_one, and_self, true_and, and_true, lenV, cellsOfSlice, Nat.le_refl, if_true , xclose_spec hx5 hro]
        | succ j =>
          have hi : l.length - (j + 1) < l.length := by omega
          obtain ⟨f, hfi⟩ : ∃ f, l[l.length - (j + 1)]? = some f := ⟨_, List.getElem?_eq_getElem hi⟩
          have hfm := List.mem_of_getElem? hfi
          obtain ⟨q, rfl, rfl, hqN, hq1⟩ := hlb _ f hfi
          have g0 : ((l.length - (j + 1) : Nat) : Int) < (l.length : Int) := by omega
          have g1 : (0 : Int) ≤ ((l.length - (j + 1) : Nat) : Int) ∧ ((l.length - (j + 1) : Nat) : Int) < (l.length : Int) := by omega
          have g2 : (l.length - (j + 1)) * 4 + 4 ≤ (flat l).length := by rw [flat_length]; omega
          have g3 := flat_get l _ f hfi
          have g4 : IntKind.i64.wrap (((l.length - (j + 1) : Nat) : Int) + 1) = ((l.length - j : Nat) : Int) := by rw [wrap_i64 (by omega) (by omega)]; omega
          have g5 : f.cells.toArray = #[.int .i64 f.kind, .int .i64 f.width, .int .i64 f.n, .string f.s] := rfl
          have hfo : f.Ok := ⟨(hok f hfm).1, (hok f hfm).2.1, (hok f hfm).2.2, Nat.le_trans (hsh f hfm) (by decide)⟩
          simp only [↓RW_seq, ↓AW_ret, ↓AW_skip, ↓AW_exit, ↓AW_block, ↓RW_cond, ↓RW_reg, ↓RW_regd, ↓RO_op, ↓RO_t, ↓RO_f, ↓RO_nt, ↓RO_nf, ↓RO_u, ↓AO_nil, ↓RD_op, ↓RD_t, ↓RD_f, ↓RD_nt, ↓RD_fe, ↓RD_nte, ↓RD_nf, ↓RD_u, ↓AOD_nil, CDops_eff, CDops_no, CDops_1, CDops_2, Again_nil, Again_cons, Same1_int, Same1_bool, Same1_str, Same1_ptr, Same1_slice, Same1_nil, CSeq_ap, CReg_ap, COps_ap, Then_normal, Then_ret, Then_exit, InBlock_normal, InBlock_ret, InBlock_self, InBlock_exit, Ends_ret, Ends_normal, ares, tup, finO_some, fin_same, fin_false, argsE, dval, aop, ev, evs, evo, evp, fillL, addrOf, intOf?, lk_put, lk_none, lk_cons, lk_nil, keep_nil, keep_cons, Op1_some, Option.map_some, Option.bind_some, reduceIte, Nat.reduceEqDiff, binV_lss, binV_leq, binV_gtr, binV_geq, binV_eql, binV_neq, binV_add, binV_sub, binV_mul, un_not, CondA_false, CondA_true, Bool.not_true, Bool.not_false, reduceCtorEq, decide_true, decide_false, Nat.add_zero, Nat.zero_add, Nat.reduceAdd, Nat.reduceMul, Bool.bne_false, Bool.bne_true, eqPtr, Option.isNone_some, Option.isNone_none, List.getElem?_cons_zero, List.getElem?_cons_succ, Option.isSome_none, Option.isSome_some , hload, hstore, List.length_cons, List.length_nil, Nat.reduceAdd, Nat.reduceLeDiff, decide_true, List.all_cons, List.all_nil, one, Bool.and_true, Bool.true_and, Bool.and_self, splice, List.set_cons_zero, List.set_cons_succ, List.getElem?_cons_zero, List.getElem?_cons_succ, vc_int, vc_slice, vc_str, vc_bool, vc_int', vc_slice', vc_str', vc_bool', List.length_set, List.length_append, Nat.lt_irrefl, Nat.lt_add_one, and_self, true_and, and_true, lenV, cellsOfSlice, Nat.le_refl, if_true , g0, g1, Int.toNat_natCast, hq1, g2, g3, g5, vc_agg', size4, hget_append_self, set_last, take4, list4]
          have hrG : RSt (H2 ++ [some ⟨true, [.int .i64 f.kind, .int .i64 f.width, .int .i64 f.n, .string f.s]⟩]) H1.length r := by
            unfold RSt; rw [hget_append_lt hr.lt]; exact hr
          refine read_spec (f := f) hrG hro hfo fun H3 hr3 hf3 => ?_
          have hro3 := read_ok hro f
          have hlt : H2.length < H3.length := by have := hf3.1; simp at this; omega
          have hp2 : H1.length + 1 < H2.length := hx.lt
          have h8 : hget H3 H2.length = some ⟨true, [.int .i64 f.kind, .int .i64 f.width, .int .i64 f.n, .string f.s]⟩ := by
            rw [hf3.2 _ (by simp) (by simp; omega), hget_append_self]
          have hx3 : RSt H3 (H1.length + 1) r.x := by
            unfold RSt; rw [hf3.2 _ (by simp; omega) (by simp), hget_append_lt (by omega)]; exact hx
          have hlb3 : LB H3 (some ⟨q, 0, none⟩) 4 l H.length := (hlb.frame (O := []) ((Frm.refl _ _).push _) (by simp)).frame hf3 (by simpa using hp0)
          -- the memory with both further fields
          have hv : (r.read f).1.v = .agg #[.int .i64 (r.read f).1.kind, .int .i64 (r.read f).1.width, .int .i64 (r.read f).1.n, .string (r.read f).1.s] := rfl
          generalize hG : H3 ++ [some ⟨true, [.int .i64 (r.read f).1.kind, .int .i64 (r.read f).1.width, .int .i64 (r.read f).1.n, .string (r.read f).1.s]⟩] ++ [some (⟨true, [.int .i64 f.kind, .int .i64 f.width, .int .i64 f.n, .string f.s]⟩ : Blk)] = G
          have hGl : G.length = H3.length + 2 := by rw [← hG]; simp
          have hGf : Frm [] H3 G := by rw [← hG]; exact ((Frm.refl _ _).push _).push _
          have hG9 : hget G H3.length = some ⟨true, [.int .i64 (r.read f).1.kind, .int .i64 (r.read f).1.width, .int .i64 (r.read f).1.n, .string (r.read f).1.s]⟩ := by
            rw [← hG, hget_append_lt (by simp), hget_append_self]
          have hG10 : hget G (H3.length + 1) = some ⟨true, [.int .i64 f.kind, .int .i64 f.width, .int .i64 f.n, .string f.s]⟩ := by
            rw [← hG, hget_app]; simp
          have hGr : RSt G H1.length (r.read f).2 := by unfold RSt; rw [hGf.2 _ (by omega) (by simp)]; exact hr3
          have hGx : RSt G (H1.length + 1) r.x := by unfold RSt; rw [hGf.2 _ (by omega) (by simp)]; exact hx3
          have hG8 : hget G H2.length = some ⟨true, [.int .i64 f.kind, .int .i64 f.width, .int .i64 f.n, .string f.s]⟩ := by rw [hGf.2 _ hlt (by simp)]; exact h8
          have hGb : LB G (some ⟨q, 0, none⟩) 4 l H.length := hlb3.frame hGf (by simp)
          have n01 : H3.length ≠ H3.length + 1 := by omega
          have n10 : H3.length + 1 ≠ H3.length := by omega
          have known : ∀ G', Frm [H1.length + 1] G G' → RSt G' (H1.length + 1) (r.read f).2.x → ∀ B, (hget G' H3.length = some ⟨true, [.int .i64 (r.read f).1.kind, .int .i64 (r.read f).1.width, .int .i64 (r.read f).1.n, .string (r.read f).1.s]⟩ ∧ hget G' (H3.length + 1) = some ⟨true, [.int .i64 f.kind, .int .i64 f.width, .int .i64 f.n, .string f.s]⟩ ∧ H3.length + 1 < G'.length) ∧
              RSt (G'.set (H3.length + 1) B) H1.length (r.read f).2 ∧ RSt (G'.set (H3.length + 1) B) (H1.length + 1) (r.read f).2.x ∧ LB (G'.set (H3.length + 1) B) (some ⟨q, 0, none⟩) 4 l H.length := by
            intro G' hfG hxG B
            have := hfG.1
            refine ⟨⟨?_, ?_, by omega⟩, ?_, ?_, ?_⟩
            · rw [hfG.2 _ (by omega) (by simp; omega)]; exact hG9
            · rw [hfG.2 _ (by omega) (by simp; omega)]; exact hG10
            · unfold RSt; rw [hget_set_ne (by omega), hfG.2 _ (by omega) (by simp)]; exact hGr
            · unfold RSt; rw [hget_set_ne (by omega)]; exact hxG
            · exact (hGb.frame hfG (by simp; omega)).frame (O := [H3.length + 1]) ((Frm.refl _ _).set _ (by simp)) (by simp; omega)
          have fin' : ∀ M, RSt M H1.length (r.read f).2 → RSt M (H1.length + 1) (r.read f).2.x → LB M (some ⟨q, 0, none⟩) 4 l H.length → ∀ H5, Frm [] M H5 → RSt H5 H1.length (r.read f).2 ∧ RSt H5 (H1.length + 1) (r.read f).2.x ∧ LB H5 (some ⟨q, 0, none⟩) 4 l H.length := by
            intro M a1 a2 a3 H5 hf5
            exact ⟨by unfold RSt; rw [hf5.2 _ a1.lt (by simp)]; exact a1, by unfold RSt; rw [hf5.2 _ a2.lt (by simp)]; exact a2, a3.frame hf5 (by simp)⟩
          by_cases k0 : f.kind = 0
          · have hrd : r.read f = ({ f with n := (r.unsigned f.width).1, s := ⟨#[]⟩ }, (r.unsigned f.width).2) := by simp [RS.read, k0]
            have e := xunsigned_spec (w := f.width) hGx hro
            have hxG := setR_st hGx.lt (r.unsigned f.width).2.x
            have hfG := setR_frm G (H1.length + 1) (r.unsigned f.width).2.x
            rw [hrd] at known fin' hro3 hG9 hG hv
            simp only [k0] at known fin' hro3 hG9 hG hv
            generalize setR G (H1.length + 1) (r.unsigned f.width).2.x = G' at *
            obtain ⟨⟨q9, q10, hl10⟩, a1, a2, a3⟩ := known G' hfG hxG (some ⟨true, [.int .i64 f.kind, .int .i64 f.width, .int .i64 (r.unsigned f.width).1, .string ⟨#[]⟩]⟩)
            simp only [k0] at a1 a2 a3 q9 q10 hrd
            simp only [↓RW_seq, ↓AW_ret, ↓AW_skip, ↓AW_exit, ↓AW_block, ↓RW_cond, ↓RW_reg, ↓RW_regd, ↓RO_op, ↓RO_t, ↓RO_f, ↓RO_nt, ↓RO_nf, ↓RO_u, ↓AO_nil, ↓RD_op, ↓RD_t, ↓RD_f, ↓RD_nt, ↓RD_fe, ↓RD_nte, ↓RD_nf, ↓RD_u, ↓AOD_nil, CDops_eff, CDops_no, CDops_1, CDops_2, Again_nil, Again_cons, Same1_int, Same1_bool, Same1_str, Same1_ptr, Same1_slice, Same1_nil, CSeq_ap, CReg_ap, COps_ap, Then_normal, Then_ret, Then_exit, InBlock_normal, InBlock_ret, InBlock_self, InBlock_exit, Ends_ret, Ends_normal, ares, tup, finO_some, fin_same, fin_false, argsE, dval, aop, ev, evs, evo, evp, fillL, addrOf, intOf?, lk_put, lk_none, lk_cons, lk_nil, keep_nil, keep_cons, Op1_some, Option.map_some, Option.bind_some, reduceIte, Nat.reduceEqDiff, binV_lss, binV_leq, binV_gtr, binV_geq, binV_eql, binV_neq, binV_add, binV_sub, binV_mul, un_not, CondA_false, CondA_true, Bool.not_true, Bool.not_false, reduceCtorEq, decide_true, decide_false, Nat.add_zero, Nat.zero_add, Nat.reduceAdd, Nat.reduceMul, Bool.bne_false, Bool.bne_true, eqPtr, Option.isNone_some, Option.isNone_none, List.getElem?_cons_zero, List.getElem?_cons_succ, Option.isSome_none, Option.isSome_some , hload, hstore, List.length_cons, List.length_nil, Nat.reduceAdd, Nat.reduceLeDiff, decide_true, List.all_cons, List.all_nil, one, Bool.and_true, Bool.true_and, Bool.and_self, splice, List.set_cons_zero, List.set_cons_succ, List.getElem?_cons_zero, List.getElem?_cons_succ, vc_int, vc_slice, vc_str, vc_bool, vc_int', vc_slice', vc_str', vc_bool', List.length_set, List.length_append, Nat.lt_irrefl, Nat.lt_add_one, and_self, true_and, and_true, lenV, cellsOfSlice, Nat.le_refl, if_true , hv, vc_agg', size4, set_last, take4, list4, hget_append_self, hget_app2, set_app2, hget_lt_app, hlt, h8, hG, hG8, hG9, hG10, hget_set_self, hget_set_ne, n01, n10, ne_eq, not_false_eq_true, not_true_eq_false, List.set_set, agg4, eqL_v, beq_self_eq_true, Bool.bne_true, and_self, hl10, hrd, k0, e, q9, q10, left_spec a1 hro3, xleft_spec a2 hro3, err_spec a1, xerr_spec a2]
            refine close_spec a1 hro3 fun H5 hf5 => ?_
            obtain ⟨b1, b2, b3⟩ := fin' _ a1 a2 a3 H5 hf5
            simp only [↓RW_seq, ↓AW_ret, ↓AW_skip, ↓AW_exit, ↓AW_block, ↓RW_cond, ↓RW_reg, ↓RW_regd, ↓RO_op, ↓RO_t, ↓RO_f, ↓RO_nt, ↓RO_nf, ↓RO_u, ↓AO_nil, ↓RD_op, ↓RD_t, ↓RD_f, ↓RD_nt, ↓RD_fe, ↓RD_nte, ↓RD_nf, ↓RD_u, ↓AOD_nil, CDops_eff, CDops_no, CDops_1, CDops_2, Again_nil, Again_cons, Same1_int, Same1_bool, Same1_str, Same1_ptr, Same1_slice, Same1_nil, CSeq_ap, CReg_ap, COps_ap, Then_normal, Then_ret, Then_exit, InBlock_normal, InBlock_ret, InBlock_self, InBlock_exit, Ends_ret, Ends_normal, ares, tup, finO_some, fin_same, fin_false, argsE, dval, aop, ev, evs, evo, evp, fillL, addrOf, intOf?, lk_put, lk_none, lk_cons, lk_nil, keep_nil, keep_cons, Op1_some, Option.map_some, Option.bind_some, reduceIte, Nat.reduceEqDiff, binV_lss, binV_leq, binV_gtr, binV_geq, binV_eql, binV_neq, binV_add, binV_sub, binV_mul, un_not, CondA_false, CondA_true, Bool.not_true, Bool.not_false, reduceCtorEq, decide_true, decide_false, Nat.add_zero, Nat.zero_add, Nat.reduceAdd, Nat.reduceMul, Bool.bne_false, Bool.bne_true, eqPtr, Option.isNone_some, Option.isNone_none, List.getElem?_cons_zero, List.getElem?_cons_succ, Option.isSome_none, Option.isSome_some , hload, hstore, List.length_cons, List.length_nil, Nat.reduceAdd, Nat.reduceLeDiff, decide_true, List.all_cons, List.all_nil, one, Bool.and_true, Bool.true_and, Bool.and_self, splice, List.set_cons_zero, List.set_cons_succ, List.getElem?_cons_zero, List.getElem?_cons_succ, vc_int, vc_slice, vc_str, vc_bool, vc_int', vc_slice', vc_str', vc_bool', List.length_set, List.length_append, Nat.lt_irrefl, Nat.lt_add_one, and_self, true_and, and_true, lenV, cellsOfSlice, Nat.le_refl, if_true , ne_eq, not_true_eq_false, xclose_spec b2 hro3, g4]
            exact ⟨j, by omega, by omega, rfl, _, b1, b2, hro3, b3⟩
          · by_cases k1 : f.kind = 1
            · have n0 : ¬ (1 : Int) = 0 := by omega
              have hrd : r.read f = ({ f with n := (r.signed f.width).1, s := ⟨#[]⟩ }, (r.signed f.width).2) := by simp [RS.read, k1]
              have e := xsigned_spec (w := f.width) hGx hro
              have hxG := setR_st hGx.lt (r.signed f.width).2.x
              have hfG := setR_frm G (H1.length + 1) (r.signed f.width).2.x
              rw [hrd] at known fin' hro3 hG9 hG hv
              simp only [k1] at known fin' hro3 hG9 hG hv
              generalize setR G (H1.length + 1) (r.signed f.width).2.x = G' at *
              obtain ⟨⟨q9, q10, hl10⟩, a1, a2, a3⟩ := known G' hfG hxG (some ⟨true, [.int .i64 f.kind, .int .i64 f.width, .int .i64 (r.signed f.width).1, .string ⟨#[]⟩]⟩)
              simp only [k1] at a1 a2 a3 q9 q10 hrd
              simp only [↓RW_seq, ↓AW_ret, ↓AW_skip, ↓AW_exit, ↓AW_block, ↓RW_cond, ↓RW_reg, ↓RW_regd, ↓RO_op, ↓RO_t, ↓RO_f, ↓RO_nt, ↓RO_nf, ↓RO_u, ↓AO_nil, ↓RD_op, ↓RD_t, ↓RD_f, ↓RD_nt, ↓RD_fe, ↓RD_nte, ↓RD_nf, ↓RD_u, ↓AOD_nil, CDops_eff, CDops_no, CDops_1, CDops_2, Again_nil, Again_cons, Same1_int, Same1_bool, Same1_str, Same1_ptr, Same1_slice, Same1_nil, CSeq_ap, CReg_ap, COps_ap, Then_normal, Then_ret, Then_exit, InBlock_normal, InBlock_ret, InBlock_self, InBlock_exit, Ends_ret, Ends_normal, ares, tup, finO_some, fin_same, fin_false, argsE, dval, aop, ev, evs, evo, evp, fillL, addrOf, intOf?, lk_put, lk_none, lk_cons, lk_nil, keep_nil, keep_cons, Op1_some, Option.map_some, Option.bind_some, reduceIte, Nat.reduceEqDiff, binV_lss, binV_leq, binV_gtr, binV_geq, binV_eql, binV_neq, binV_add, binV_sub, binV_mul, un_not, CondA_false, CondA_true, Bool.not_true, Bool.not_false, reduceCtorEq, decide_true, decide_false, Nat.add_zero, Nat.zero_add, Nat.reduceAdd, Nat.reduceMul, Bool.bne_false, Bool.bne_true, eqPtr, Option.isNone_some, Option.isNone_none, List.getElem?_cons_zero, List.getElem?_cons_succ, Option.isSome_none, Option.isSome_some , hload, hstore, List.length_cons, List.length_nil, Nat.reduceAdd, Nat.reduceLeDiff, decide_true, List.all_cons, List.all_nil, one, Bool.and_true, Bool.true_and, Bool.and_self, splice, List.set_cons_zero, List.set_cons_succ, List.getElem?_cons_zero, List.getElem?_cons_succ, vc_int, vc_slice, vc_str, vc_bool, vc_int', vc_slice', vc_str', vc_bool', List.length_set, List.length_append, Nat.lt_irrefl, Nat.lt_add_one, and_self, true_and, and_true, lenV, cellsOfSlice, Nat.le_refl, if_true , hv, vc_agg', size4, set_last, take4, list4, hget_append_self, hget_app2, set_app2, hget_lt_app, hlt, h8, hG, hG8, hG9, hG10, hget_set_self, hget_set_ne, n01, n10, ne_eq, not_false_eq_true, not_true_eq_false, List.set_set, agg4, eqL_v, beq_self_eq_true, Bool.bne_true, and_self, hl10, hrd, k1, n0, e, q9, q10, left_spec a1 hro3, xleft_spec a2 hro3, err_spec a1, xerr_spec a2]
              refine close_spec a1 hro3 fun H5 hf5 => ?_
              obtain ⟨b1, b2, b3⟩ := fin' _ a1 a2 a3 H5 hf5
              simp only [↓RW_seq, ↓AW_ret, ↓AW_skip, ↓AW_exit, ↓AW_block, ↓RW_cond, ↓RW_reg, ↓RW_regd, ↓RO_op, ↓RO_t, ↓RO_f, ↓RO_nt, ↓RO_nf, ↓RO_u, ↓AO_nil, ↓RD_op, ↓RD_t, ↓RD_f, ↓RD_nt, ↓RD_fe, ↓RD_nte, ↓RD_nf, ↓RD_u, ↓AOD_nil, CDops_eff, CDops_no, CDops_1, CDops_2, Again_nil, Again_cons, Same1_int, Same1_bool, Same1_str, Same1_ptr, Same1_slice, Same1_nil, CSeq_ap, CReg_ap, COps_ap, Then_normal, Then_ret, Then_exit, InBlock_normal, InBlock_ret, InBlock_self, InBlock_exit, Ends_ret, Ends_normal, ares, tup, finO_some, fin_same, fin_false, argsE, dval, aop, ev, evs, evo, evp, fillL, addrOf, intOf?, lk_put, lk_none, lk_cons, lk_nil, keep_nil, keep_cons, Op1_some, Option.map_some, Option.bind_some, reduceIte, Nat.reduceEqDiff, binV_lss, binV_leq, binV_gtr, binV_geq, binV_eql, binV_neq, binV_add, binV_sub, binV_mul, un_not, CondA_false, CondA_true, Bool.not_true, Bool.not_false, reduceCtorEq, decide_true, decide_false, Nat.add_zero, Nat.zero_add, Nat.reduceAdd, Nat.reduceMul, Bool.bne_false, Bool.bne_true, eqPtr, Option.isNone_some, Option.isNone_none, List.getElem?_cons_zero, List.getElem?_cons_succ, Option.isSome_none, Option.isSome_some , hload, hstore, List.length_cons, List.length_nil, Nat.reduceAdd, Nat.reduceLeDiff, decide_true, List.all_cons, List.all_nil, one, Bool.and_true, Bool.true_and, Bool.and_self, splice, List.set_cons_zero, List.set_cons_succ, List.getElem?_cons_zero, List.getElem?_cons_succ, vc_int, vc_slice, vc_str, vc_bool, vc_int', vc_slice', vc_str', vc_bool', List.length_set, List.length_append, Nat.lt_irrefl, Nat.lt_add_one, and_self, true_and, and_true, lenV, cellsOfSlice, Nat.le_refl, if_true , ne_eq, not_true_eq_false, xclose_spec b2 hro3, g4]
              exact ⟨j, by omega, by omega, rfl, _, b1, b2, hro3, b3⟩
            · by_cases k2 : f.kind = 2
              · have n0 : ¬ (2 : Int) = 0 := by omega
                have n1 : ¬ (2 : Int) = 1 := by omega
                have hrd : r.read f = (⟨f.kind, 0, if r.flag.1 then 1 else 0, ⟨#[]⟩⟩, r.flag.2) := by simp [RS.read, k2]
                have hgl : H3.length + 1 < G.length := by omega
                have hGx2 : RSt (G.set (H3.length + 1) (some ⟨true, [.int .i64 2, .int .i64 0, .int .i64 0, .string ⟨#[]⟩]⟩)) (H1.length + 1) r.x := by unfold RSt; rw [hget_set_ne (by omega)]; exact hGx
                have e := xflag_spec hGx2 hro
                have hxG := setR_st hGx2.lt r.flag.2.x
                have hfG := setR_frm (G.set (H3.length + 1) (some ⟨true, [.int .i64 2, .int .i64 0, .int .i64 0, .string ⟨#[]⟩]⟩)) (H1.length + 1) r.flag.2.x
                rw [hrd] at fin' hro3 hG9 hG hv hGr
                simp only [k2] at fin' hro3 hG9 hG hv hGr e hGx2 hxG hfG hrd
                generalize setR (G.set (H3.length + 1) (some ⟨true, [.int .i64 2, .int .i64 0, .int .i64 0, .string ⟨#[]⟩]⟩)) (H1.length + 1) r.flag.2.x = G' at *
                have q9 : hget G' H3.length = some ⟨true, [.int .i64 2, .int .i64 0, .int .i64 (if r.flag.1 = true then 1 else 0), .string ⟨#[]⟩]⟩ := by rw [hfG.2 _ (by simp; omega) (by simp; omega), hget_set_ne (by omega)]; exact hG9
                have q10 : hget G' (H3.length + 1) = some ⟨true, [.int .i64 2, .int .i64 0, .int .i64 0, .string ⟨#[]⟩]⟩ := by rw [hfG.2 _ (by simp; omega) (by simp; omega), hget_set_self hgl]
                have hl10 : H3.length + 1 < G'.length := by have := hfG.1; simp at this; omega
                have b1' : RSt G' H1.length r.flag.2 := by unfold RSt; rw [hfG.2 _ (by simp; omega) (by simp), hget_set_ne (by omega)]; exact hGr
                have b3' : LB G' (some ⟨q, 0, none⟩) 4 l H.length := (hGb.frame (O := [H3.length + 1]) ((Frm.refl _ _).set _ (by simp)) (by simp; omega)).frame hfG (by simp; omega)
                cases hb : r.flag.1 with
                | false =>
                  rw [hb] at e q9 hrd hG hv
                  simp only [Bool.false_eq_true, if_false] at q9 hG hv
                  simp only [↓RW_seq, ↓AW_ret, ↓AW_skip, ↓AW_exit, ↓AW_block, ↓RW_cond, ↓RW_reg, ↓RW_regd, ↓RO_op, ↓RO_t, ↓RO_f, ↓RO_nt, ↓RO_nf, ↓RO_u, ↓AO_nil, ↓RD_op, ↓RD_t, ↓RD_f, ↓RD_nt, ↓RD_fe, ↓RD_nte, ↓RD_nf, ↓RD_u, ↓AOD_nil, CDops_eff, CDops_no, CDops_1, CDops_2, Again_nil, Again_cons, Same1_int, Same1_bool, Same1_str, Same1_ptr, Same1_slice, Same1_nil, CSeq_ap, CReg_ap, COps_ap, Then_normal, Then_ret, Then_exit, InBlock_normal, InBlock_ret, InBlock_self, InBlock_exit, Ends_ret, Ends_normal, ares, tup, finO_some, fin_same, fin_false, argsE, dval, aop, ev, evs, evo, evp, fillL, addrOf, intOf?, lk_put, lk_none, lk_cons, lk_nil, keep_nil, keep_cons, Op1_some, Option.map_some, Option.bind_some, reduceIte, Nat.reduceEqDiff, binV_lss, binV_leq, binV_gtr, binV_geq, binV_eql, binV_neq, binV_add, binV_sub, binV_mul, un_not, CondA_false, CondA_true, Bool.not_true, Bool.not_false, reduceCtorEq, decide_true, decide_false, Nat.add_zero, Nat.zero_add, Nat.reduceAdd, Nat.reduceMul, Bool.bne_false, Bool.bne_true, eqPtr, Option.isNone_some, Option.isNone_none, List.getElem?_cons_zero, List.getElem?_cons_succ, Option.isSome_none, Option.isSome_some , hload, hstore, List.length_cons, List.length_nil, Nat.reduceAdd, Nat.reduceLeDiff, decide_true, List.all_cons, List.all_nil, one, Bool.and_true, Bool.true_and, Bool.and_self, splice, List.set_cons_zero, List.set_cons_succ, List.getElem?_cons_zero, List.getElem?_cons_succ, vc_int, vc_slice, vc_str, vc_bool, vc_int', vc_slice', vc_str', vc_bool', List.length_set, List.length_append, Nat.lt_irrefl, Nat.lt_add_one, and_self, true_and, and_true, lenV, cellsOfSlice, Nat.le_refl, if_true , hv, vc_agg', size4, set_last, take4, list4, hget_append_self, hget_app2, set_app2, hget_lt_app, hlt, h8, hG, hG8, hG9, hG10, hget_set_self, hget_set_ne, n01, n10, ne_eq, not_false_eq_true, not_true_eq_false, List.set_set, agg4, eqL_v, beq_self_eq_true, Bool.bne_true, and_self, hl10, hrd, k2, n0, n1, hgl, e, q9, q10, Bool.false_eq_true, if_false, left_spec b1' hro3, xleft_spec hxG hro3, err_spec b1', xerr_spec hxG]
                  refine close_spec b1' hro3 fun H5 hf5 => ?_
                  obtain ⟨b1, b2, b3⟩ := fin' _ b1' hxG b3' H5 hf5
                  simp only [↓RW_seq, ↓AW_ret, ↓AW_skip, ↓AW_exit, ↓AW_block, ↓RW_cond, ↓RW_reg, ↓RW_regd, ↓RO_op, ↓RO_t, ↓RO_f, ↓RO_nt, ↓RO_nf, ↓RO_u, ↓AO_nil, ↓RD_op, ↓RD_t, ↓RD_f, ↓RD_nt, ↓RD_fe, ↓RD_nte, ↓RD_nf, ↓RD_u, ↓AOD_nil, CDops_eff, CDops_no, CDops_1, CDops_2, Again_nil, Again_cons, Same1_int, Same1_bool, Same1_str, Same1_ptr, Same1_slice, Same1_nil, CSeq_ap, CReg_ap, COps_ap, Then_normal, Then_ret, Then_exit, InBlock_normal, InBlock_ret, InBlock_self, InBlock_exit, Ends_ret, Ends_normal, ares, tup, finO_some, fin_same, fin_false, argsE, dval, aop, ev, evs, evo, evp, fillL, addrOf, intOf?, lk_put, lk_none, lk_cons, lk_nil, keep_nil, keep_cons, Op1_some, Option.map_some, Option.bind_some, reduceIte, Nat.reduceEqDiff, binV_lss, binV_leq, binV_gtr, binV_geq, binV_eql, binV_neq, binV_add, binV_sub, binV_mul, un_not, CondA_false, CondA_true, Bool.not_true, Bool.not_false, reduceCtorEq, decide_true, decide_false, Nat.add_zero, Nat.zero_add, Nat.reduceAdd, Nat.reduceMul, Bool.bne_false, Bool.bne_true, eqPtr, Option.isNone_some, Option.isNone_none, List.getElem?_cons_zero, List.getElem?_cons_succ, Option.isSome_none, Option.isSome_some , hload, hstore, List.length_cons, List.length_nil, Nat.reduceAdd, Nat.reduceLeDiff, decide_true, List.all_cons, List.all_nil, one, Bool.and_true, Bool.true_and, Bool.and_self, splice, List.set_cons_zero, List.set_cons_succ, List.getElem?_cons_zero, List.getElem?_cons_succ, vc_int, vc_slice, vc_str, vc_bool, vc_int', vc_slice', vc_str', vc_bool', List.length_set, List.length_append, Nat.lt_irrefl, Nat.lt_add_one, and_self, true_and, and_true, lenV, cellsOfSlice, Nat.le_refl, if_true , ne_eq, not_true_eq_false, xclose_spec b2 hro3, g4]
                  exact ⟨j, by omega, by omega, rfl, _, b1, b2, hro3, b3⟩
                | true =>
                  rw [hb] at e q9 hrd hG hv
                  simp only [if_true] at q9 hG hv
                  have a1 : RSt (G'.set (H3.length + 1) (some ⟨true, [.int .i64 2, .int .i64 0, .int .i64 1, .string ⟨#[]⟩]⟩)) H1.length r.flag.2 := by unfold RSt; rw [hget_set_ne (by omega)]; exact b1'
                  have a2 : RSt (G'.set (H3.length + 1) (some ⟨true, [.int .i64 2, .int .i64 0, .int .i64 1, .string ⟨#[]⟩]⟩)) (H1.length + 1) r.flag.2.x := by unfold RSt; rw [hget_set_ne (by omega)]; exact hxG
                  have a3 := b3'.frame (O := [H3.length + 1]) ((Frm.refl [H3.length + 1] G').set (i := H3.length + 1) (some ⟨true, [.int .i64 2, .int .i64 0, .int .i64 1, .string ⟨#[]⟩]⟩) (.inl (by simp))) (by simp; omega)
                  simp only [↓RW_seq, ↓AW_ret, ↓AW_skip, ↓AW_exit, ↓AW_block, ↓RW_cond, ↓RW_reg, ↓RW_regd, ↓RO_op, ↓RO_t, ↓RO_f, ↓RO_nt, ↓RO_nf, ↓RO_u, ↓AO_nil, ↓RD_op, ↓RD_t, ↓RD_f, ↓RD_nt, ↓RD_fe, ↓RD_nte, ↓RD_nf, ↓RD_u, ↓AOD_nil, CDops_eff, CDops_no, CDops_1, CDops_2, Again_nil, Again_cons, Same1_int, Same1_bool, Same1_str, Same1_ptr, Same1_slice, Same1_nil, CSeq_ap, CReg_ap, COps_ap, Then_normal, Then_ret, Then_exit, InBlock_normal, InBlock_ret, InBlock_self, InBlock_exit, Ends_ret, Ends_normal, ares, tup, finO_some, fin_same, fin_false, argsE, dval, aop, ev, evs, evo, evp, fillL, addrOf, intOf?, lk_put, lk_none, lk_cons, lk_nil, keep_nil, keep_cons, Op1_some, Option.map_some, Option.bind_some, reduceIte, Nat.reduceEqDiff, binV_lss, binV_leq, binV_gtr, binV_geq, binV_eql, binV_neq, binV_add, binV_sub, binV_mul, un_not, CondA_false, CondA_true, Bool.not_true, Bool.not_false, reduceCtorEq, decide_true, decide_false, Nat.add_zero, Nat.zero_add, Nat.reduceAdd, Nat.reduceMul, Bool.bne_false, Bool.bne_true, eqPtr, Option.isNone_some, Option.isNone_none, List.getElem?_cons_zero, List.getElem?_cons_succ, Option.isSome_none, Option.isSome_some , hload, hstore, List.length_cons, List.length_nil, Nat.reduceAdd, Nat.reduceLeDiff, decide_true, List.all_cons, List.all_nil, one, Bool.and_true, Bool.true_and, Bool.and_self, splice, List.set_cons_zero, List.set_cons_succ, List.getElem?_cons_zero, List.getElem?_cons_succ, vc_int, vc_slice, vc_str, vc_bool, vc_int', vc_slice', vc_str', vc_bool', List.length_set, List.length_append, Nat.lt_irrefl, Nat.lt_add_one, and_self, true_and, and_true, lenV, cellsOfSlice, Nat.le_refl, if_true , hv, vc_agg', size4, set_last, take4, list4, hget_append_self, hget_app2, set_app2, hget_lt_app, hlt, h8, hG, hG8, hG9, hG10, hget_set_self, hget_set_ne, n01, n10, ne_eq, not_false_eq_true, not_true_eq_false, List.set_set, agg4, eqL_v, beq_self_eq_true, Bool.bne_true, and_self, hl10, hrd, k2, n0, n1, hgl, e, q9, q10, if_true, left_spec a1 hro3, xleft_spec a2 hro3, err_spec a1, xerr_spec a2]
                  refine close_spec a1 hro3 fun H5 hf5 => ?_
                  obtain ⟨b1, b2, b3⟩ := fin' _ a1 a2 a3 H5 hf5
                  simp only [↓RW_seq, ↓AW_ret, ↓AW_skip, ↓AW_exit, ↓AW_block, ↓RW_cond, ↓RW_reg, ↓RW_regd, ↓RO_op, ↓RO_t, ↓RO_f, ↓RO_nt, ↓RO_nf, ↓RO_u, ↓AO_nil, ↓RD_op, ↓RD_t, ↓RD_f, ↓RD_nt, ↓RD_fe, ↓RD_nte, ↓RD_nf, ↓RD_u, ↓AOD_nil, CDops_eff, CDops_no, CDops_1, CDops_2, Again_nil, Again_cons, Same1_int, Same1_bool, Same1_str, Same1_ptr, Same1_slice, Same1_nil, CSeq_ap, CReg_ap, COps_ap, Then_normal, Then_ret, Then_exit, InBlock_normal, InBlock_ret, InBlock_self, InBlock_exit, Ends_ret, Ends_normal, ares, tup, finO_some, fin_same, fin_false, argsE, dval, aop, ev, evs, evo, evp, fillL, addrOf, intOf?, lk_put, lk_none, lk_cons, lk_nil, keep_nil, keep_cons, Op1_some, Option.map_some, Option.bind_some, reduceIte, Nat.reduceEqDiff, binV_lss, binV_leq, binV_gtr, binV_geq, binV_eql, binV_neq, binV_add, binV_sub, binV_mul, un_not, CondA_false, CondA_true, Bool.not_true, Bool.not_false, reduceCtorEq, decide_true, decide_false, Nat.add_zero, Nat.zero_add, Nat.reduceAdd, Nat.reduceMul, Bool.bne_false, Bool.bne_true, eqPtr, Option.isNone_some, Option.isNone_none, List.getElem?_cons_zero, List.getElem?_cons_succ, Option.isSome_none, Option.isSome_some , hload, hstore, List.length_cons, List.length_nil, Nat.reduceAdd, Nat.reduceLeDiff, decide_true, List.all_cons, List.all_nil, one, Bool.and_true, Bool.true_and, Bool.and_self, splice, List.set_cons_zero, List.set_cons_succ, List.getElem?_cons_zero, List.getElem?_cons_succ, vc_int, vc_slice, vc_str, vc_bool, vc_int', vc_slice', vc_str', vc_bool', List.length_set, List.length_append, Nat.lt_irrefl, Nat.lt_add_one, and_self, true_and, and_true, lenV, cellsOfSlice, Nat.le_refl, if_true , ne_eq, not_true_eq_false, xclose_spec b2 hro3, g4]
                  exact ⟨j, by omega, by omega, rfl, _, b1, b2, hro3, b3⟩
              · by_cases k3 : f.kind = 3
                · have n0 : ¬ (3 : Int) = 0 := by omega
                  have n1 : ¬ (3 : Int) = 1 := by omega
                  have n2 : ¬ (3 : Int) = 2 := by omega
                  have hrd : r.read f = ({ f with n := 0, s := (r.text f.width).1 }, (r.text f.width).2) := by simp [RS.read, k3]
                  rw [hrd] at known fin' hro3 hG9 hG hv
                  simp only [k3] at known fin' hro3 hG9 hG hv
                  simp only [↓RW_seq, ↓AW_ret, ↓AW_skip, ↓AW_exit, ↓AW_block, ↓RW_cond, ↓RW_reg, ↓RW_regd, ↓RO_op, ↓RO_t, ↓RO_f, ↓RO_nt, ↓RO_nf, ↓RO_u, ↓AO_nil, ↓RD_op, ↓RD_t, ↓RD_f, ↓RD_nt, ↓RD_fe, ↓RD_nte, ↓RD_nf, ↓RD_u, ↓AOD_nil, CDops_eff, CDops_no, CDops_1, CDops_2, Again_nil, Again_cons, Same1_int, Same1_bool, Same1_str, Same1_ptr, Same1_slice, Same1_nil, CSeq_ap, CReg_ap, COps_ap, Then_normal, Then_ret, Then_exit, InBlock_normal, InBlock_ret, InBlock_self, InBlock_exit, Ends_ret, Ends_normal, ares, tup, finO_some, fin_same, fin_false, argsE, dval, aop, ev, evs, evo, evp, fillL, addrOf, intOf?, lk_put, lk_none, lk_cons, lk_nil, keep_nil, keep_cons, Op1_some, Option.map_some, Option.bind_some, reduceIte, Nat.reduceEqDiff, binV_lss, binV_leq, binV_gtr, binV_geq, binV_eql, binV_neq, binV_add, binV_sub, binV_mul, un_not, CondA_false, CondA_true, Bool.not_true, Bool.not_false, reduceCtorEq, decide_true, decide_false, Nat.add_zero, Nat.zero_add, Nat.reduceAdd, Nat.reduceMul, Bool.bne_false, Bool.bne_true, eqPtr, Option.isNone_some, Option.isNone_none, List.getElem?_cons_zero, List.getElem?_cons_succ, Option.isSome_none, Option.isSome_some , hload, hstore, List.length_cons, List.length_nil, Nat.reduceAdd, Nat.reduceLeDiff, decide_true, List.all_cons, List.all_nil, one, Bool.and_true, Bool.true_and, Bool.and_self, splice, List.set_cons_zero, List.set_cons_succ, List.getElem?_cons_zero, List.getElem?_cons_succ, vc_int, vc_slice, vc_str, vc_bool, vc_int', vc_slice', vc_str', vc_bool', List.length_set, List.length_append, Nat.lt_irrefl, Nat.lt_add_one, and_self, true_and, and_true, lenV, cellsOfSlice, Nat.le_refl, if_true , hv, vc_agg', size4, set_last, take4, list4, hget_append_self, hget_app2, set_app2, hget_lt_app, hlt, h8, hG, hG8, hG9, hG10, hget_set_self, hget_set_ne, n01, n10, ne_eq, not_false_eq_true, not_true_eq_false, List.set_set, agg4, eqL_v, beq_self_eq_true, Bool.bne_true, and_self, hrd, k3, n0, n1, n2]
                  refine xtext_spec hGx hro hfo.width fun G' hxG hfG => ?_
                  obtain ⟨⟨q9, q10, hl10⟩, a1, a2, a3⟩ := known G' hfG hxG (some ⟨true, [.int .i64 f.kind, .int .i64 f.width, .int .i64 0, .string (r.text f.width).1]⟩)
                  simp only [k3] at a1 a2 a3 q9 q10 hrd
                  simp only [↓RW_seq, ↓AW_ret, ↓AW_skip, ↓AW_exit, ↓AW_block, ↓RW_cond, ↓RW_reg, ↓RW_regd, ↓RO_op, ↓RO_t, ↓RO_f, ↓RO_nt, ↓RO_nf, ↓RO_u, ↓AO_nil, ↓RD_op, ↓RD_t, ↓RD_f, ↓RD_nt, ↓RD_fe, ↓RD_nte, ↓RD_nf, ↓RD_u, ↓AOD_nil, CDops_eff, CDops_no, CDops_1, CDops_2, Again_nil, Again_cons, Same1_int, Same1_bool, Same1_str, Same1_ptr, Same1_slice, Same1_nil, CSeq_ap, CReg_ap, COps_ap, Then_normal, Then_ret, Then_exit, InBlock_normal, InBlock_ret, InBlock_self, InBlock_exit, Ends_ret, Ends_normal, ares, tup, finO_some, fin_same, fin_false, argsE, dval, aop, ev, evs, evo, evp, fillL, addrOf, intOf?, lk_put, lk_none, lk_cons, lk_nil, keep_nil, keep_cons, Op1_some, Option.map_some, Option.bind_some, reduceIte, Nat.reduceEqDiff, binV_lss, binV_leq, binV_gtr, binV_geq, binV_eql, binV_neq, binV_add, binV_sub, binV_mul, un_not, CondA_false, CondA_true, Bool.not_true, Bool.not_false, reduceCtorEq, decide_true, decide_false, Nat.add_zero, Nat.zero_add, Nat.reduceAdd, Nat.reduceMul, Bool.bne_false, Bool.bne_true, eqPtr, Option.isNone_some, Option.isNone_none, List.getElem?_cons_zero, List.getElem?_cons_succ, Option.isSome_none, Option.isSome_some , hload, hstore, List.length_cons, List.length_nil, Nat.reduceAdd, Nat.reduceLeDiff, decide_true, List.all_cons, List.all_nil, one, Bool.and_true, Bool.true_and, Bool.and_self, splice, List.set_cons_zero, List.set_cons_succ, List.getElem?_cons_zero, List.getElem?_cons_succ, vc_int, vc_slice, vc_str, vc_bool, vc_int', vc_slice', vc_str', vc_bool', List.length_set, List.length_append, Nat.lt_irrefl, Nat.lt_add_one, and_self, true_and, and_true, lenV, cellsOfSlice, Nat.le_refl, if_true , hv, vc_agg', size4, set_last, take4, list4, hget_append_self, hget_app2, set_app2, hget_lt_app, hlt, h8, hG, hG8, hG9, hG10, hget_set_self, hget_set_ne, n01, n10, ne_eq, not_false_eq_true, not_true_eq_false, List.set_set, agg4, eqL_v, beq_self_eq_true, Bool.bne_true, and_self, hl10, hrd, k3, n0, n1, n2, q9, q10, left_spec a1 hro3, xleft_spec a2 hro3, err_spec a1, xerr_spec a2]
                  refine close_spec a1 hro3 fun H5 hf5 => ?_
                  obtain ⟨b1, b2, b3⟩ := fin' _ a1 a2 a3 H5 hf5
                  simp only [↓RW_seq, ↓AW_ret, ↓AW_skip, ↓AW_exit, ↓AW_block, ↓RW_cond, ↓RW_reg, ↓RW_regd, ↓RO_op, ↓RO_t, ↓RO_f, ↓RO_nt, ↓RO_nf, ↓RO_u, ↓AO_nil, ↓RD_op, ↓RD_t, ↓RD_f, ↓RD_nt, ↓RD_fe, ↓RD_nte, ↓RD_nf, ↓RD_u, ↓AOD_nil, CDops_eff, CDops_no, CDops_1, CDops_2, Again_nil, Again_cons, Same1_int, Same1_bool, Same1_str, Same1_ptr, Same1_slice, Same1_nil, CSeq_ap, CReg_ap, COps_ap, Then_normal, Then_ret, Then_exit, InBlock_normal, InBlock_ret, InBlock_self, InBlock_exit, Ends_ret, Ends_normal, ares, tup, finO_some, fin_same, fin_false, argsE, dval, aop, ev, evs, evo, evp, fillL, addrOf, intOf?, lk_put, lk_none, lk_cons, lk_nil, keep_nil, keep_cons, Op1_some, Option.map_some, Option.bind_some, reduceIte, Nat.reduceEqDiff, binV_lss, binV_leq, binV_gtr, binV_geq, binV_eql, binV_neq, binV_add, binV_sub, binV_mul, un_not, CondA_false, CondA_true, Bool.not_true, Bool.not_false, reduceCtorEq, decide_true, decide_false, Nat.add_zero, Nat.zero_add, Nat.reduceAdd, Nat.reduceMul, Bool.bne_false, Bool.bne_true, eqPtr, Option.isNone_some, Option.isNone_none, List.getElem?_cons_zero, List.getElem?_cons_succ, Option.isSome_none, Option.isSome_some , hload, hstore, List.length_cons, List.length_nil, Nat.reduceAdd, Nat.reduceLeDiff, decide_true, List.all_cons, List.all_nil, one, Bool.and_true, Bool.true_and, Bool.and_self, splice, List.set_cons_zero, List.set_cons_succ, List.getElem?_cons_zero, List.getElem?_cons_succ, vc_int, vc_slice, vc_str, vc_bool, vc_int', vc_slice', vc_str', vc_bool', List.length_set, List.length_append, Nat.lt_irrefl, Nat.lt_add_one, and_self, true_and, and_true, lenV, cellsOfSlice, Nat.le_refl, if_true , ne_eq, not_true_eq_false, xclose_spec b2 hro3, g4]
                  exact ⟨j, by omega, by omega, rfl, _, b1, b2, hro3, b3⟩
                · have hrd : r.read f = (f, r) := by simp [RS.read, k0, k1, k2, k3]
                  rw [hrd] at known fin' hro3 hG9 hG hv hGr
                  simp only at known fin' hro3 hG9 hG hv hGr
                  simp only [↓RW_seq, ↓AW_ret, ↓AW_skip, ↓AW_exit, ↓AW_block, ↓RW_cond, ↓RW_reg, ↓RW_regd, ↓RO_op, ↓RO_t, ↓RO_f, ↓RO_nt, ↓RO_nf, ↓RO_u, ↓AO_nil, ↓RD_op, ↓RD_t, ↓RD_f, ↓RD_nt, ↓RD_fe, ↓RD_nte, ↓RD_nf, ↓RD_u, ↓AOD_nil, CDops_eff, CDops_no, CDops_1, CDops_2, Again_nil, Again_cons, Same1_int, Same1_bool, Same1_str, Same1_ptr, Same1_slice, Same1_nil, CSeq_ap, CReg_ap, COps_ap, Then_normal, Then_ret, Then_exit, InBlock_normal, InBlock_ret, InBlock_self, InBlock_exit, Ends_ret, Ends_normal, ares, tup, finO_some, fin_same, fin_false, argsE, dval, aop, ev, evs, evo, evp, fillL, addrOf, intOf?, lk_put, lk_none, lk_cons, lk_nil, keep_nil, keep_cons, Op1_some, Option.map_some, Option.bind_some, reduceIte, Nat.reduceEqDiff, binV_lss, binV_leq, binV_gtr, binV_geq, binV_eql, binV_neq, binV_add, binV_sub, binV_mul, un_not, CondA_false, CondA_true, Bool.not_true, Bool.not_false, reduceCtorEq, decide_true, decide_false, Nat.add_zero, Nat.zero_add, Nat.reduceAdd, Nat.reduceMul, Bool.bne_false, Bool.bne_true, eqPtr, Option.isNone_some, Option.isNone_none, List.getElem?_cons_zero, List.getElem?_cons_succ, Option.isSome_none, Option.isSome_some , hload, hstore, List.length_cons, List.length_nil, Nat.reduceAdd, Nat.reduceLeDiff, decide_true, List.all_cons, List.all_nil, one, Bool.and_true, Bool.true_and, Bool.and_self, splice, List.set_cons_zero, List.set_cons_succ, List.getElem?_cons_zero, List.getElem?_cons_succ, vc_int, vc_slice, vc_str, vc_bool, vc_int', vc_slice', vc_str', vc_bool', List.length_set, List.length_append, Nat.lt_irrefl, Nat.lt_add_one, and_self, true_and, and_true, lenV, cellsOfSlice, Nat.le_refl, if_true , hv, vc_agg', size4, set_last, take4, list4, hget_append_self, hget_app2, set_app2, hget_lt_app, hlt, h8, hG, hG8, hG9, hG10, hget_set_self, hget_set_ne, n01, n10, ne_eq, not_false_eq_true, not_true_eq_false, List.set_set, agg4, eqL_v, beq_self_eq_true, Bool.bne_true, and_self, hrd, k0, k1, k2, k3, left_spec hGr hro3, xleft_spec hGx hro3, err_spec hGr, xerr_spec hGx]
                  refine close_spec hGr hro3 fun H5 hf5 => ?_
                  obtain ⟨b1, b2, b3⟩ := fin' _ hGr hGx hGb H5 hf5
                  simp only [↓RW_seq, ↓AW_ret, ↓AW_skip, ↓AW_exit, ↓AW_block, ↓RW_cond, ↓RW_reg, ↓RW_regd, ↓RO_op, ↓RO_t, ↓RO_f, ↓RO_nt, ↓RO_nf, ↓RO_u, ↓AO_nil, ↓RD_op, ↓RD_t, ↓RD_f, ↓RD_nt, ↓RD_fe, ↓RD_nte, ↓RD_nf, ↓RD_u, ↓AOD_nil, CDops_eff, CDops_no, CDops_1, CDops_2, Again_nil, Again_cons, Same1_int, Same1_bool, Same1_str, Same1_ptr, Same1_slice, Same1_nil, CSeq_ap, CReg_ap, COps_ap, Then_normal, Then_ret, Then_exit, InBlock_normal, InBlock_ret, InBlock_self, InBlock_exit, Ends_ret, Ends_normal, ares, tup, finO_some, fin_same, fin_false, argsE, dval, aop, ev, evs, evo, evp, fillL, addrOf, intOf?, lk_put, lk_none, lk_cons, lk_nil, keep_nil, keep_cons, Op1_some, Option.map_some, Option.bind_some, reduceIte, Nat.reduceEqDiff, binV_lss, binV_leq, binV_gtr, binV_geq, binV_eql, binV_neq, binV_add, binV_sub, binV_mul, un_not, CondA_false, CondA_true, Bool.not_true, Bool.not_false, reduceCtorEq, decide_true, decide_false, Nat.add_zero, Nat.zero_add, Nat.reduceAdd, Nat.reduceMul, Bool.bne_false, Bool.bne_true, eqPtr, Option.isNone_some, Option.isNone_none, List.getElem?_cons_zero, List.getElem?_cons_succ, Option.isSome_none, Option.isSome_some , hload, hstore, List.length_cons, List.length_nil, Nat.reduceAdd, Nat.reduceLeDiff, decide_true, List.all_cons, List.all_nil, one, Bool.and_true, Bool.true_and, Bool.and_self, splice, List.set_cons_zero, List.set_cons_succ, List.getElem?_cons_zero, List.getElem?_cons_succ, vc_int, vc_slice, vc_str, vc_bool, vc_int', vc_slice', vc_str', vc_bool', List.length_set, List.length_append, Nat.lt_irrefl, Nat.lt_add_one, and_self, true_and, and_true, lenV, cellsOfSlice, Nat.le_refl, if_true , ne_eq, not_true_eq_false, xclose_spec b2 hro3, g4]
                  exact ⟨j, by omega, by omega, rfl, _, b1, b2, hro3, b3⟩

end Go.Proofs.Ytlbhbjaimcinbaa.AI

/- Each function of the program is that of the interpreter's table. -/
namespace Go.Proofs.Ytlbhbjaimcinbaa.AI
open Go

def sigL : List (Nat × Nat) := [(3, 3), (4, 4), (5, 5), (6, 6), (7, 7), (8, 8), (9, 9), (10, 10), (11, 11), (12, 12), (13, 13), (14, 14), (15, 15), (16, 16), (17, 17), (18, 18), (19, 19), (20, 20), (21, 21), (22, 22), (23, 23), (24, 24), (25, 25), (26, 26), (27, 27), (28, 28), (29, 29), (30, 30), (31, 31), (32, 32), (33, 33), (34, 34), (35, 35), (36, 36), (37, 37), (38, 38), (39, 39), (40, 40), (41, 41), (42, 42), (43, 43), (44, 44), (45, 45), (46, 46), (47, 47), (48, 48), (49, 49), (50, 50), (51, 51), (52, 52), (53, 53), (54, 54), (55, 55), (56, 56), (57, 57), (58, 58), (59, 59), (60, 60), (61, 61)]
def sig (n : Nat) : Nat := num sigL n
def tauL : List (Nat × Nat) := [(3, 3), (4, 4), (5, 5), (6, 6), (7, 7), (8, 8), (9, 9), (10, 10), (11, 11), (12, 12), (13, 13), (14, 14), (15, 15), (16, 16), (17, 17), (18, 18), (19, 19), (20, 20), (21, 21), (22, 22), (23, 23), (24, 24), (25, 25), (26, 26), (27, 27), (28, 28), (29, 29), (30, 30), (31, 31), (32, 32), (33, 33), (34, 34), (35, 35), (36, 36), (37, 37), (38, 38), (39, 39), (40, 40), (41, 41), (42, 42), (43, 43), (44, 44), (45, 45), (46, 46), (47, 47), (48, 48), (49, 49), (50, 50), (51, 51), (52, 52), (53, 53), (54, 54), (55, 55), (56, 56), (57, 57), (58, 58), (59, 59), (60, 60), (61, 61)]
def tau (n : Nat) : Nat := num tauL n

theorem link3 : compF Try.prog tau sig (find [(0, [0]), (1, [0, 12]), (2, [2]), (3, [0, 15]), (4, [2]), (5, [0, 3, 4]), (6, [0, 3, 4, 19]), (7, [2]), (8, [3, 4, 20, 21, 22]), (9, [3, 4, 20, 21, 22, 23]), (10, [3, 4, 6, 20, 21, 22]), (11, [3, 4, 6, 20, 21, 22]), (12, [3, 4, 20, 21, 22]), (13, [3, 4, 7, 8, 20, 21, 22]), (14, [3, 4, 7, 8, 9, 10, 20, 21, 22]), (15, [3, 4, 20, 21, 22, 56]), (16, [2]), (17, [3, 4, 20, 21, 22]), (18, [2])]) (findO []) Try.f3 false false = some F3 := by kernel_rfl
theorem link4 : compF Try.prog tau sig (find [(0, [0, 1]), (1, [0, 1, 13]), (2, [4]), (3, [0, 1, 21]), (4, [4]), (5, [0, 1, 5, 6]), (6, [0, 1, 5, 6, 30]), (7, [4]), (8, [0, 5, 6, 31, 32, 33]), (9, [0, 5, 6, 31, 32, 33, 34]), (10, [0, 5, 6, 8, 31, 32, 33]), (11, [0, 5, 6, 9, 31, 32, 33]), (12, [0, 5, 6, 31, 32, 33]), (13, [0, 5, 6, 31, 32, 33]), (14, [0, 6, 46]), (15, [4]), (16, [0, 10, 11]), (17, [4])]) (findO []) Try.f4 false false = some F4 := by kernel_rfl
theorem link5 : compF Try.prog tau sig (find [(0, [0]), (1, [0, 11]), (2, [2]), (3, [0, 3]), (4, [0, 3, 15]), (5, [2]), (6, [0, 3, 23]), (7, [2]), (8, [0, 3, 4, 5]), (9, [0, 3, 4, 5, 31]), (10, [2]), (11, [0, 3, 4, 5]), (12, [0, 3, 4, 5, 7]), (13, [0, 3, 5, 48]), (14, [2]), (15, [0, 3, 5, 50]), (16, [2]), (17, [5]), (18, [5, 9]), (19, [2])]) (findO []) Try.f5 false false = some F5 := by kernel_rfl
theorem link6 : compF Try.prog tau sig (find [(0, [0, 1]), (1, [0, 1, 15]), (2, [4]), (3, [1, 5]), (4, [1, 5, 6, 7]), (5, [1, 5, 6, 7, 27]), (6, [4]), (7, [1, 5, 6, 7]), (8, [1, 5, 7, 8, 9]), (9, [1, 5, 7, 8, 9, 49]), (10, [4]), (11, [1, 5, 7, 8, 9, 10]), (12, [1, 5, 7, 8, 9, 10, 58]), (13, [1, 5, 7, 8, 9, 10]), (14, [1, 5, 7, 8, 9]), (15, [1, 5, 8, 9, 11, 12]), (16, [1, 5, 8, 9, 11, 12, 13]), (17, [4])]) (findO []) Try.f6 false false = some F6 := by kernel_rfl
theorem link7 : compF Try.prog tau sig (find [(0, [0, 1]), (1, [0, 1, 12]), (2, [4]), (3, [0, 1, 20]), (4, [4]), (5, [1, 5, 6]), (6, [1, 5, 6, 26]), (7, [4]), (8, [5, 6, 27, 28, 29]), (9, [5, 6, 27, 28, 29, 30]), (10, [5, 6, 8, 27, 28, 29]), (11, [5, 6, 8, 9, 27, 28, 29]), (12, [5, 6, 8, 9, 10, 27, 28, 29]), (13, [5, 6, 8, 9, 10, 27, 28, 29, 38]), (14, [5, 6, 8, 9, 10, 27, 28, 29, 38, 39]), (15, [5, 6, 9, 10, 27, 28, 29]), (16, [5, 6, 8, 9, 10, 27, 28, 29, 38, 47]), (17, [5, 6, 9, 10, 27, 28, 29]), (18, [5, 6, 8, 9, 10, 27, 28, 29, 38, 55]), (19, [5, 6, 9, 10, 27, 28, 29]), (20, [5, 6, 9, 10, 27, 28, 29, 61]), (21, [5, 6, 9, 10, 27, 28, 29]), (22, [5, 6, 8, 9, 10, 27, 28, 29, 63]), (23, [5, 6, 9, 10, 27, 28, 29]), (24, [5, 6, 27, 28, 29, 94]), (25, [4]), (26, [5, 6, 27, 28, 29]), (27, [4])]) (findO []) Try.f7 false false = some F7 := by kernel_rfl
theorem link8 : compF Try.prog tau sig (find [(0, [0]), (1, [0, 13]), (2, [2]), (3, [0, 16]), (4, [2]), (5, [0, 3]), (6, [0, 3, 19]), (7, [2]), (8, [0, 3, 20, 21, 22]), (9, [0, 3, 20, 21, 22, 23]), (10, [0, 3, 5, 20, 21, 22]), (11, [0, 3, 20, 21, 22]), (12, [0, 3, 20, 21, 22]), (13, [0, 3, 6, 7]), (14, [0, 3, 6, 36]), (15, [2]), (16, [0, 3, 6, 45]), (17, [2]), (18, [0, 3, 6, 8]), (19, [0, 3, 6, 8, 49]), (20, [2]), (21, [3, 6, 8, 50, 51, 52]), (22, [3, 6, 8, 50, 51, 52, 53]), (23, [3, 6, 8, 10, 50, 51, 52]), (24, [3, 6, 8, 10, 50, 51, 52, 63]), (25, [3, 6, 8, 10, 11, 50, 51, 52]), (26, [3, 6, 8, 50, 51, 52, 107]), (27, [2]), (28, [3, 6, 8, 50, 51, 52]), (29, [2])]) (findO []) Try.f8 false false = some F8 := by kernel_rfl
theorem link9 : compF Try.prog tau sig (find [(0, [0, 1]), (1, [0, 1, 11]), (2, [4]), (3, [0, 1, 19]), (4, [4]), (5, [1, 5]), (6, [1, 5, 23]), (7, [4]), (8, [1, 5, 6]), (9, [5, 6, 24, 25, 26]), (10, [5, 6, 24, 25, 26, 27]), (11, [5, 6, 8, 24, 25, 26]), (12, [5, 6, 8, 9, 24, 25, 26]), (13, [5, 24, 25, 26, 60]), (14, [4]), (15, [5, 6, 24, 25, 26]), (16, [5, 6, 24, 25, 26, 75]), (17, [4]), (18, [5, 6, 24, 25, 26]), (19, [4])]) (findO []) Try.f9 false false = some F9 := by kernel_rfl
theorem link10 : compF Try.prog tau sig (find [(0, [0]), (1, [0, 12]), (2, [2]), (3, [0, 3]), (4, [0, 3, 15]), (5, [2]), (6, [0, 3, 4]), (7, [0, 3, 4, 5]), (8, [0, 3, 4, 5, 18]), (9, [0, 3, 4, 5, 18, 19]), (10, [0, 3, 4, 5, 18]), (11, [0, 3, 4, 5, 18]), (12, [0, 3, 4, 5, 18]), (13, [0, 3, 4, 28]), (14, [0, 3, 4]), (15, [0, 3, 4]), (16, [0, 3, 4, 6]), (17, [3, 4, 6, 7]), (18, [3, 4, 6, 7]), (19, [3, 4, 6, 7, 8, 9]), (20, [3, 4, 7, 8, 9, 49]), (21, [2]), (22, [3, 4, 7, 8, 9, 10]), (23, [2])]) (findO []) Try.f10 false false = some F10 := by kernel_rfl
theorem link11 : compF Try.prog tau sig (find [(0, []), (1, [1]), (2, [1, 7]), (3, [0]), (4, [1]), (5, [1]), (6, [1]), (7, [1]), (8, [1, 2, 3]), (9, [1, 2, 3, 4]), (10, [1, 2, 3, 4, 23]), (11, [0]), (12, [0])]) (findO []) Try.f11 true true = some F11 := by kernel_rfl
theorem link12 : compF Try.prog tau sig (find [(0, [0]), (1, [0, 7]), (2, [2]), (3, [8, 9, 10]), (4, [8, 9, 10, 11]), (5, [4, 8, 9, 10]), (6, [8, 9, 10, 17]), (7, [2]), (8, [8, 9, 10]), (9, [2])]) (findO []) Try.f12 false false = some F12 := by kernel_rfl
theorem link13 : compF Try.prog tau sig (find [(0, []), (1, [0])]) (findO []) Try.f13 false false = some F13 := by kernel_rfl
theorem link14 : compF Try.prog tau sig (find [(0, []), (1, [0])]) (findO []) Try.f14 false false = some F14 := by kernel_rfl
theorem link15 : compF Try.prog tau sig (find [(0, [0, 3]), (1, [0, 3, 5]), (2, [0, 3, 5, 6]), (3, []), (4, [0, 3, 5, 14]), (5, []), (6, [0, 3, 5, 22]), (7, []), (8, [0, 3, 29]), (9, [])]) (findO []) Try.f15 false false = some F15 := by kernel_rfl
theorem link16 : compF Try.prog tau sig (find [(0, [0, 3]), (1, [0, 3, 5]), (2, [0, 3, 5, 6]), (3, []), (4, [0, 3, 5, 14]), (5, []), (6, [0, 3, 5, 22]), (7, []), (8, [0, 3, 29]), (9, [])]) (findO []) Try.f16 false false = some F16 := by kernel_rfl
theorem link17 : compF Try.prog tau sig (find [(0, [0]), (1, [0, 8]), (2, [2, 3]), (3, [2, 3])]) (findO [(2, [(0, 0), (1, 0), (2, 0), (3, 0), (4, 0), (5, 0)])]) Try.f17 false false = some F17 := by kernel_rfl
theorem link18 : compF Try.prog tau sig (find [(0, [0]), (1, [0, 10]), (2, [2, 3]), (3, [0, 4]), (4, [0, 4, 5]), (5, [0, 4, 5, 29]), (7, [0, 4, 5]), (6, [0, 4, 5]), (8, [2, 3])]) (findO [(2, [(0, 0), (1, 0), (2, 0), (3, 0), (4, 0), (5, 0)]), (7, [(0, 0), (1, 0), (2, 0), (3, 0), (4, 0), (5, 0), (6, 0), (7, 0), (8, 0), (9, 0), (10, 0), (11, 0), (12, 0), (13, 0), (14, 0), (15, 0), (16, 0), (17, 0), (18, 0), (19, 0), (20, 0), (21, 0)])]) Try.f18 false false = some F18 := by kernel_rfl
theorem link19 : compF Try.prog tau sig (find [(0, [0]), (1, [2])]) (findO []) Try.f19 false false = some F19 := by kernel_rfl
theorem link20 : compF Try.prog tau sig (find [(0, [0]), (1, [2])]) (findO []) Try.f20 false false = some F20 := by kernel_rfl
theorem link21 : compF Try.prog tau sig (find [(0, [0]), (1, [0, 5]), (2, [2]), (3, [2])]) (findO []) Try.f21 false false = some F21 := by kernel_rfl
theorem link22 : compF Try.prog tau sig (find [(0, [0, 3, 4]), (1, [0, 3, 4, 6]), (2, [0, 3, 4, 6, 7]), (3, [3, 4]), (4, [0, 3, 4, 6, 15]), (5, [3, 4]), (6, [0, 3, 4, 6, 23]), (7, [0, 3, 4]), (8, [3, 4, 29]), (9, [3, 4]), (10, [0, 3, 4, 31]), (11, [3, 4]), (12, [4])]) (findO []) Try.f22 false false = some F22 := by kernel_rfl
theorem link23 : compF Try.prog tau sig (find [(0, [1]), (1, [1, 8]), (2, [2]), (3, [1, 3]), (4, [20]), (5, [2]), (6, [2])]) (findO []) Try.f23 false false = some F23 := by kernel_rfl
theorem link24 : compF Try.prog tau sig (find [(0, [0]), (1, [0, 4]), (2, [2]), (3, [2])]) (findO []) Try.f24 true true = some F24 := by kernel_rfl
theorem link25 : compF Try.prog tau sig (find [(0, [0, 1, 2, 6]), (1, [])]) (findO []) Try.f25 false false = some F25 := by kernel_rfl
theorem link26 : compF Try.prog tau sig (find [(0, [0, 1, 2, 6]), (1, [])]) (findO []) Try.f26 false false = some F26 := by kernel_rfl
theorem link27 : compF Try.prog tau sig (find [(0, [0, 1]), (1, [0, 1, 5]), (2, [1, 5, 28]), (3, [5]), (4, [4])]) (findO []) Try.f27 false false = some F27 := by kernel_rfl
theorem link28 : compF Try.prog tau sig (find [(0, [0]), (1, [0, 5]), (2, [2]), (3, [2])]) (findO []) Try.f28 false false = some F28 := by kernel_rfl
theorem link29 : compF Try.prog tau sig (find [(0, [0, 1]), (1, [0, 1, 17]), (2, [0, 1]), (3, [4])]) (findO []) Try.f29 false false = some F29 := by kernel_rfl
theorem link30 : compF Try.prog tau sig (find [(0, [0, 1]), (1, [0, 1, 18]), (2, [0, 1]), (3, [0, 1, 5]), (4, [1, 5, 35]), (5, [5]), (6, [4])]) (findO [(5, [(0, 0), (1, 0), (2, 0), (3, 0), (4, 0), (5, 0), (6, 0), (7, 0), (8, 0), (9, 0)])]) Try.f30 false false = some F30 := by kernel_rfl
theorem link31 : compF Try.prog tau sig (find [(0, [0]), (1, [2])]) (findO []) Try.f31 false false = some F31 := by kernel_rfl
theorem link32 : compF Try.prog tau sig (find [(0, [0, 1]), (1, [0, 1, 20]), (2, [0, 1]), (3, [0, 1, 5]), (4, [0, 5, 36]), (5, [0, 5]), (6, [0, 5, 50]), (7, [0, 5]), (8, [0, 5, 57]), (9, [4]), (10, [0, 5, 6]), (11, [0, 5, 6, 7]), (12, [0, 5, 6, 7, 62]), (14, [0, 5, 6, 7]), (13, [0, 5, 6, 7]), (15, [4])]) (findO []) Try.f32 false false = some F32 := by kernel_rfl
theorem link33 : compF Try.prog tau sig (find [(0, [0]), (1, [0, 7]), (2, [2]), (3, [2])]) (findO [(3, [(0, 0), (1, 0), (2, 0), (3, 0), (4, 0), (5, 0), (6, 0), (7, 0), (8, 0), (9, 0), (10, 0), (11, 0)])]) Try.f33 false false = some F33 := by kernel_rfl
theorem link34 : compF Try.prog tau sig (find [(0, [0]), (1, [2])]) (findO [(1, [(0, 0), (1, 0), (2, 0), (3, 0), (4, 0), (5, 0), (6, 0), (7, 0), (8, 0), (9, 0), (10, 0), (11, 0)])]) Try.f34 false false = some F34 := by kernel_rfl
theorem link35 : compF Try.prog tau sig (find [(0, [0]), (1, [2])]) (findO []) Try.f35 false false = some F35 := by kernel_rfl
theorem link36 : compF Try.prog tau sig (find [(0, [0]), (1, [2])]) (findO []) Try.f36 false false = some F36 := by kernel_rfl
theorem link37 : compF Try.prog tau sig (find [(0, [0]), (1, [0, 8]), (2, [2]), (3, [0, 15]), (4, [2]), (5, [0, 3]), (6, [0, 3, 27]), (8, [0, 3, 43]), (9, [2]), (7, [0, 3]), (10, [2])]) (findO []) Try.f37 false false = some F37 := by kernel_rfl
theorem link38 : compF Try.prog tau sig (find [(6, [0, 1, 2, 26]), (7, [0, 1, 2, 32]), (8, []), (9, [0, 1, 2, 39]), (10, []), (0, [0, 2]), (1, [0, 2, 15, 16]), (2, [0, 2, 15, 16, 17]), (3, [0, 2, 6, 15, 16]), (4, [0, 2, 15, 16]), (5, [0, 2, 15, 16])]) (findO [(9, [(0, 0), (1, 0), (2, 0), (3, 0), (4, 0), (5, 0), (6, 0), (7, 0), (9, 0), (10, 0), (8, 1), (11, 0), (12, 0), (13, 0), (14, 0), (15, 0), (16, 0), (17, 0), (18, 0)])]) Try.f38 false false = some F38 := by kernel_rfl
theorem link39 : compF Try.prog tau sig (find [(0, [0, 1, 4]), (1, [0, 4, 5]), (2, [0, 4]), (3, [])]) (findO []) Try.f39 false false = some F39 := by kernel_rfl
theorem link40 : compF Try.prog tau sig (find [(0, [0, 1]), (1, [4])]) (findO []) Try.f40 false false = some F40 := by kernel_rfl
theorem link41 : compF Try.prog tau sig (find [(0, [0]), (1, [2])]) (findO []) Try.f41 false false = some F41 := by kernel_rfl
theorem link42 : compF Try.prog tau sig (find [(0, [0, 1]), (1, [0, 1, 5]), (2, [0, 1, 5, 16]), (3, [4]), (4, [0, 5, 22]), (5, []), (6, [4]), (7, [0, 5, 28]), (8, []), (9, [4]), (10, [5, 6]), (11, [6, 7]), (12, [6, 7, 41, 42]), (13, [6, 7, 41, 42, 43]), (14, [6, 7, 8, 41, 42]), (15, [6, 7, 41, 42]), (16, [6, 7, 41, 42]), (17, [4])]) (findO []) Try.f42 false false = some F42 := by kernel_rfl
theorem link43 : compF Try.prog tau sig (find [(0, [0, 1, 2, 10]), (1, [0, 1, 2, 16]), (2, []), (3, [0, 1, 2, 31]), (4, []), (5, [0, 1, 2, 37]), (6, [])]) (findO []) Try.f43 false false = some F43 := by kernel_rfl
theorem link44 : compF Try.prog tau sig (find [(0, [0, 1, 2, 10]), (1, [0, 1, 2, 16]), (2, []), (3, [0, 1, 2, 33]), (4, []), (5, [0, 1, 2, 39]), (6, [])]) (findO []) Try.f44 false false = some F44 := by kernel_rfl
theorem link45 : compF Try.prog tau sig (find [(0, [0, 1, 6]), (1, [0, 7]), (2, []), (3, [])]) (findO []) Try.f45 false false = some F45 := by kernel_rfl
theorem link46 : compF Try.prog tau sig (find [(0, [0, 1, 2, 11]), (1, [0, 1, 2, 17]), (2, []), (3, [0, 1, 2, 24]), (4, []), (5, [0, 1, 2, 36]), (6, [0, 2]), (7, [0, 2, 6]), (8, [0, 2, 6, 46]), (10, [0, 2, 6]), (9, [0, 2, 6])]) (findO []) Try.f46 false false = some F46 := by kernel_rfl
theorem link47 : compF Try.prog tau sig (find [(0, [0]), (1, [0, 2]), (2, [1])]) (findO []) Try.f47 false false = some F47 := by kernel_rfl
theorem link48 : compF Try.prog tau sig (find [(0, [0, 1]), (1, [0, 1, 5]), (2, [0, 5, 6, 7]), (3, [0, 5, 6, 7, 8]), (4, [0, 5, 6, 7]), (5, [0, 5, 6, 7]), (6, [0, 5, 6, 7]), (7, [4])]) (findO [(4, [(0, 0), (1, 0), (2, 0), (3, 0), (4, 0), (5, 0), (6, 0), (7, 0), (8, 0), (9, 0), (10, 0), (11, 0), (12, 0), (13, 0), (14, 0), (15, 0), (16, 0), (17, 0), (18, 0), (19, 0), (20, 0), (21, 0), (22, 0)])]) Try.f48 false false = some F48 := by kernel_rfl
theorem link49 : compF Try.prog tau sig (find [(0, [0]), (1, [2]), (2, [2])]) (findO []) Try.f49 true true = some F49 := by kernel_rfl
theorem link50 : compF Try.prog tau sig (find [(1, [0, 1, 2, 3, 4, 15]), (2, [0, 2, 3, 4, 21]), (3, []), (4, [0, 3, 4, 27]), (5, []), (6, [0, 3, 4, 33]), (7, []), (0, [])]) (findO []) Try.f50 false false = some F50 := by kernel_rfl
theorem link51 : compF Try.prog tau sig (find [(0, [0, 1, 2]), (2, [0, 1, 2, 10]), (3, [0, 2, 16]), (4, []), (5, [0, 2, 21]), (6, []), (1, [6]), (7, [6])]) (findO []) Try.f51 false false = some F51 := by kernel_rfl
theorem link52 : compF Try.prog tau sig (find [(0, [0]), (1, [0]), (2, [])]) (findO []) Try.f52 false false = some F52 := by kernel_rfl
theorem link53 : compF Try.prog tau sig (find [(0, [0, 1]), (1, [0, 1, 11]), (2, [4]), (3, [0, 1, 15]), (4, []), (5, [4]), (6, [0, 1, 5]), (7, [0, 1, 5, 6]), (8, [0, 1, 5, 6, 20]), (10, [0, 1, 5, 6]), (11, [0, 1, 5, 6]), (9, [0, 1, 5, 6]), (12, [4])]) (findO [(10, [(0, 0), (1, 0), (2, 0), (3, 0), (4, 0), (5, 0), (6, 0), (7, 0), (8, 0), (9, 0), (10, 0), (11, 0), (12, 0), (13, 0), (14, 0), (15, 0), (16, 0), (17, 0), (18, 0), (19, 0), (20, 0), (21, 0), (22, 0)])]) Try.f53 false false = some F53 := by kernel_rfl
theorem link54 : compF Try.prog tau sig (find [(0, [0]), (1, [0, 5]), (2, [2]), (3, [0, 3]), (4, [0, 3, 7]), (5, [0, 3]), (6, [0, 3]), (7, [2])]) (findO []) Try.f54 true true = some F54 := by kernel_rfl
theorem link55 : compF Try.prog tau sig (find [(0, [0]), (1, [2])]) (findO []) Try.f55 true true = some F55 := by kernel_rfl
theorem link56 : compF Try.prog tau sig (find [(0, [0, 2, 6]), (1, [0, 2, 6, 10]), (3, [0, 2, 6, 18]), (4, [0, 2, 6]), (5, [0, 2, 6]), (6, [0, 2, 6]), (2, [0, 2, 6])]) (findO [(5, [(0, 0), (1, 0), (2, 0), (3, 0), (4, 0), (5, 0), (6, 0), (7, 0), (8, 0), (9, 0), (10, 0), (11, 0), (12, 0), (13, 0), (14, 0), (15, 0), (16, 0), (17, 0), (18, 0), (19, 0), (20, 0), (21, 0), (22, 0), (23, 0), (24, 0), (25, 0)])]) Try.f56 false false = some F56 := by kernel_rfl
theorem link57 : compF Try.prog tau sig (find [(0, [0, 1, 8]), (1, [])]) (findO []) Try.f57 false false = some F57 := by kernel_rfl
theorem link58 : compF Try.prog tau sig (find [(0, [0, 1]), (1, [0, 19]), (2, [0]), (3, [4])]) (findO []) Try.f58 false false = some F58 := by kernel_rfl
theorem link59 : compF Try.prog tau sig (find [(0, [0, 2, 6]), (1, [0, 2, 6, 10]), (3, [0, 2, 6]), (2, [0, 2, 6])]) (findO [(3, [(0, 0), (1, 0), (2, 0), (3, 0), (5, 0), (6, 0), (7, 0), (8, 0), (9, 0), (10, 0), (4, 1), (11, 0), (12, 0), (13, 0), (14, 0)])]) Try.f59 false false = some F59 := by kernel_rfl
theorem link60 : compF Try.prog tau sig (find [(0, [0, 2]), (1, [0, 2, 4]), (2, [0]), (3, [0, 2]), (4, [0, 2, 8]), (5, [0, 2]), (6, [0, 2]), (7, [2])]) (findO []) Try.f60 true true = some F60 := by kernel_rfl
theorem link61 : compF Try.prog tau sig (find [(0, [0, 2]), (1, [0, 2, 4]), (2, [0]), (3, [0, 2]), (4, [0, 2, 8]), (5, [0, 2]), (6, [0, 2]), (7, [0, 2, 14]), (8, [0, 2]), (9, [0, 2]), (10, [2])]) (findO []) Try.f61 true true = some F61 := by kernel_rfl

theorem at3 : Try.prog.funcs[sig 3]? = some Try.f3 := by kernel_rfl
theorem at4 : Try.prog.funcs[sig 4]? = some Try.f4 := by kernel_rfl
theorem at5 : Try.prog.funcs[sig 5]? = some Try.f5 := by kernel_rfl
theorem at6 : Try.prog.funcs[sig 6]? = some Try.f6 := by kernel_rfl
theorem at7 : Try.prog.funcs[sig 7]? = some Try.f7 := by kernel_rfl
theorem at8 : Try.prog.funcs[sig 8]? = some Try.f8 := by kernel_rfl
theorem at9 : Try.prog.funcs[sig 9]? = some Try.f9 := by kernel_rfl
theorem at10 : Try.prog.funcs[sig 10]? = some Try.f10 := by kernel_rfl
theorem at11 : Try.prog.funcs[sig 11]? = some Try.f11 := by kernel_rfl
theorem at12 : Try.prog.funcs[sig 12]? = some Try.f12 := by kernel_rfl
theorem at13 : Try.prog.funcs[sig 13]? = some Try.f13 := by kernel_rfl
theorem at14 : Try.prog.funcs[sig 14]? = some Try.f14 := by kernel_rfl
theorem at15 : Try.prog.funcs[sig 15]? = some Try.f15 := by kernel_rfl
theorem at16 : Try.prog.funcs[sig 16]? = some Try.f16 := by kernel_rfl
theorem at17 : Try.prog.funcs[sig 17]? = some Try.f17 := by kernel_rfl
theorem at18 : Try.prog.funcs[sig 18]? = some Try.f18 := by kernel_rfl
theorem at19 : Try.prog.funcs[sig 19]? = some Try.f19 := by kernel_rfl
theorem at20 : Try.prog.funcs[sig 20]? = some Try.f20 := by kernel_rfl
theorem at21 : Try.prog.funcs[sig 21]? = some Try.f21 := by kernel_rfl
theorem at22 : Try.prog.funcs[sig 22]? = some Try.f22 := by kernel_rfl
theorem at23 : Try.prog.funcs[sig 23]? = some Try.f23 := by kernel_rfl
theorem at24 : Try.prog.funcs[sig 24]? = some Try.f24 := by kernel_rfl
theorem at25 : Try.prog.funcs[sig 25]? = some Try.f25 := by kernel_rfl
theorem at26 : Try.prog.funcs[sig 26]? = some Try.f26 := by kernel_rfl
theorem at27 : Try.prog.funcs[sig 27]? = some Try.f27 := by kernel_rfl
theorem at28 : Try.prog.funcs[sig 28]? = some Try.f28 := by kernel_rfl
theorem at29 : Try.prog.funcs[sig 29]? = some Try.f29 := by kernel_rfl
theorem at30 : Try.prog.funcs[sig 30]? = some Try.f30 := by kernel_rfl
theorem at31 : Try.prog.funcs[sig 31]? = some Try.f31 := by kernel_rfl
theorem at32 : Try.prog.funcs[sig 32]? = some Try.f32 := by kernel_rfl
theorem at33 : Try.prog.funcs[sig 33]? = some Try.f33 := by kernel_rfl
theorem at34 : Try.prog.funcs[sig 34]? = some Try.f34 := by kernel_rfl
theorem at35 : Try.prog.funcs[sig 35]? = some Try.f35 := by kernel_rfl
theorem at36 : Try.prog.funcs[sig 36]? = some Try.f36 := by kernel_rfl
theorem at37 : Try.prog.funcs[sig 37]? = some Try.f37 := by kernel_rfl
theorem at38 : Try.prog.funcs[sig 38]? = some Try.f38 := by kernel_rfl
theorem at39 : Try.prog.funcs[sig 39]? = some Try.f39 := by kernel_rfl
theorem at40 : Try.prog.funcs[sig 40]? = some Try.f40 := by kernel_rfl
theorem at41 : Try.prog.funcs[sig 41]? = some Try.f41 := by kernel_rfl
theorem at42 : Try.prog.funcs[sig 42]? = some Try.f42 := by kernel_rfl
theorem at43 : Try.prog.funcs[sig 43]? = some Try.f43 := by kernel_rfl
theorem at44 : Try.prog.funcs[sig 44]? = some Try.f44 := by kernel_rfl
theorem at45 : Try.prog.funcs[sig 45]? = some Try.f45 := by kernel_rfl
theorem at46 : Try.prog.funcs[sig 46]? = some Try.f46 := by kernel_rfl
theorem at47 : Try.prog.funcs[sig 47]? = some Try.f47 := by kernel_rfl
theorem at48 : Try.prog.funcs[sig 48]? = some Try.f48 := by kernel_rfl
theorem at49 : Try.prog.funcs[sig 49]? = some Try.f49 := by kernel_rfl
theorem at50 : Try.prog.funcs[sig 50]? = some Try.f50 := by kernel_rfl
theorem at51 : Try.prog.funcs[sig 51]? = some Try.f51 := by kernel_rfl
theorem at52 : Try.prog.funcs[sig 52]? = some Try.f52 := by kernel_rfl
theorem at53 : Try.prog.funcs[sig 53]? = some Try.f53 := by kernel_rfl
theorem at54 : Try.prog.funcs[sig 54]? = some Try.f54 := by kernel_rfl
theorem at55 : Try.prog.funcs[sig 55]? = some Try.f55 := by kernel_rfl
theorem at56 : Try.prog.funcs[sig 56]? = some Try.f56 := by kernel_rfl
theorem at57 : Try.prog.funcs[sig 57]? = some Try.f57 := by kernel_rfl
theorem at58 : Try.prog.funcs[sig 58]? = some Try.f58 := by kernel_rfl
theorem at59 : Try.prog.funcs[sig 59]? = some Try.f59 := by kernel_rfl
theorem at60 : Try.prog.funcs[sig 60]? = some Try.f60 := by kernel_rfl
theorem at61 : Try.prog.funcs[sig 61]? = some Try.f61 := by kernel_rfl

theorem linked : Linked Try.prog sig tbl := by
  intro i F h
  simp only [tbl, tblL, look] at h
  by_cases h3 : 3 = i
  · rw [if_pos h3] at h; injection h with h; subst h3; subst h; exact ⟨_, _, _, _, at3, link3⟩
  rw [if_neg h3] at h
  by_cases h4 : 4 = i
  · rw [if_pos h4] at h; injection h with h; subst h4; subst h; exact ⟨_, _, _, _, at4, link4⟩
  rw [if_neg h4] at h
  by_cases h5 : 5 = i
  · rw [if_pos h5] at h; injection h with h; subst h5; subst h; exact ⟨_, _, _, _, at5, link5⟩
  rw [if_neg h5] at h
  by_cases h6 : 6 = i
  · rw [if_pos h6] at h; injection h with h; subst h6; subst h; exact ⟨_, _, _, _, at6, link6⟩
  rw [if_neg h6] at h
  by_cases h7 : 7 = i
  · rw [if_pos h7] at h; injection h with h; subst h7; subst h; exact ⟨_, _, _, _, at7, link7⟩
  rw [if_neg h7] at h
  by_cases h8 : 8 = i
  · rw [if_pos h8] at h; injection h with h; subst h8; subst h; exact ⟨_, _, _, _, at8, link8⟩
  rw [if_neg h8] at h
  by_cases h9 : 9 = i
  · rw [if_pos h9] at h; injection h with h; subst h9; subst h; exact ⟨_, _, _, _, at9, link9⟩
  rw [if_neg h9] at h
  by_cases h10 : 10 = i
  · rw [if_pos h10] at h; injection h with h; subst h10; subst h; exact ⟨_, _, _, _, at10, link10⟩
  rw [if_neg h10] at h
  by_cases h11 : 11 = i
  · rw [if_pos h11] at h; injection h with h; subst h11; subst h; exact ⟨_, _, _, _, at11, link11⟩
  rw [if_neg h11] at h
  by_cases h12 : 12 = i
  · rw [if_pos h12] at h; injection h with h; subst h12; subst h; exact ⟨_, _, _, _, at12, link12⟩
  rw [if_neg h12] at h
  by_cases h13 : 13 = i
  · rw [if_pos h13] at h; injection h with h; subst h13; subst h; exact ⟨_, _, _, _, at13, link13⟩
  rw [if_neg h13] at h
  by_cases h14 : 14 = i
  · rw [if_pos h14] at h; injection h with h; subst h14; subst h; exact ⟨_, _, _, _, at14, link14⟩
  rw [if_neg h14] at h
  by_cases h15 : 15 = i
  · rw [if_pos h15] at h; injection h with h; subst h15; subst h; exact ⟨_, _, _, _, at15, link15⟩
  rw [if_neg h15] at h
  by_cases h16 : 16 = i
  · rw [if_pos h16] at h; injection h with h; subst h16; subst h; exact ⟨_, _, _, _, at16, link16⟩
  rw [if_neg h16] at h
  by_cases h17 : 17 = i
  · rw [if_pos h17] at h; injection h with h; subst h17; subst h; exact ⟨_, _, _, _, at17, link17⟩
  rw [if_neg h17] at h
  by_cases h18 : 18 = i
  · rw [if_pos h18] at h; injection h with h; subst h18; subst h; exact ⟨_, _, _, _, at18, link18⟩
  rw [if_neg h18] at h
  by_cases h19 : 19 = i
  · rw [if_pos h19] at h; injection h with h; subst h19; subst h; exact ⟨_, _, _, _, at19, link19⟩
  rw [if_neg h19] at h
  by_cases h20 : 20 = i
  · rw [if_pos h20] at h; injection h with h; subst h20; subst h; exact ⟨_, _, _, _, at20, link20⟩
  rw [if_neg h20] at h
  by_cases h21 : 21 = i
  · rw [if_pos h21] at h; injection h with h; subst h21; subst h; exact ⟨_, _, _, _, at21, link21⟩
  rw [if_neg h21] at h
  by_cases h22 : 22 = i
  · rw [if_pos h22] at h; injection h with h; subst h22; subst h; exact ⟨_, _, _, _, at22, link22⟩
  rw [if_neg h22] at h
  by_cases h23 : 23 = i
  · rw [if_pos h23] at h; injection h with h; subst h23; subst h; exact ⟨_, _, _, _, at23, link23⟩
  rw [if_neg h23] at h
  by_cases h24 : 24 = i
  · rw [if_pos h24] at h; injection h with h; subst h24; subst h; exact ⟨_, _, _, _, at24, link24⟩
  rw [if_neg h24] at h
  by_cases h25 : 25 = i
  · rw [if_pos h25] at h; injection h with h; subst h25; subst h; exact ⟨_, _, _, _, at25, link25⟩
  rw [if_neg h25] at h
  by_cases h26 : 26 = i
  · rw [if_pos h26] at h; injection h with h; subst h26; subst h; exact ⟨_, _, _, _, at26, link26⟩
  rw [if_neg h26] at h
  by_cases h27 : 27 = i
  · rw [if_pos h27] at h; injection h with h; subst h27; subst h; exact ⟨_, _, _, _, at27, link27⟩
  rw [if_neg h27] at h
  by_cases h28 : 28 = i
  · rw [if_pos h28] at h; injection h with h; subst h28; subst h; exact ⟨_, _, _, _, at28, link28⟩
  rw [if_neg h28] at h
  by_cases h29 : 29 = i
  · rw [if_pos h29] at h; injection h with h; subst h29; subst h; exact ⟨_, _, _, _, at29, link29⟩
  rw [if_neg h29] at h
  by_cases h30 : 30 = i
  · rw [if_pos h30] at h; injection h with h; subst h30; subst h; exact ⟨_, _, _, _, at30, link30⟩
  rw [if_neg h30] at h
  by_cases h31 : 31 = i
  · rw [if_pos h31] at h; injection h with h; subst h31; subst h; exact ⟨_, _, _, _, at31, link31⟩
  rw [if_neg h31] at h
  by_cases h32 : 32 = i
  · rw [if_pos h32] at h; injection h with h; subst h32; subst h; exact ⟨_, _, _, _, at32, link32⟩
  rw [if_neg h32] at h
  by_cases h33 : 33 = i
  · rw [if_pos h33] at h; injection h with h; subst h33; subst h; exact ⟨_, _, _, _, at33, link33⟩
  rw [if_neg h33] at h
  by_cases h34 : 34 = i
  · rw [if_pos h34] at h; injection h with h; subst h34; subst h; exact ⟨_, _, _, _, at34, link34⟩
  rw [if_neg h34] at h
  by_cases h35 : 35 = i
  · rw [if_pos h35] at h; injection h with h; subst h35; subst h; exact ⟨_, _, _, _, at35, link35⟩
  rw [if_neg h35] at h
  by_cases h36 : 36 = i
  · rw [if_pos h36] at h; injection h with h; subst h36; subst h; exact ⟨_, _, _, _, at36, link36⟩
  rw [if_neg h36] at h
  by_cases h37 : 37 = i
  · rw [if_pos h37] at h; injection h with h; subst h37; subst h; exact ⟨_, _, _, _, at37, link37⟩
  rw [if_neg h37] at h
  by_cases h38 : 38 = i
  · rw [if_pos h38] at h; injection h with h; subst h38; subst h; exact ⟨_, _, _, _, at38, link38⟩
  rw [if_neg h38] at h
  by_cases h39 : 39 = i
  · rw [if_pos h39] at h; injection h with h; subst h39; subst h; exact ⟨_, _, _, _, at39, link39⟩
  rw [if_neg h39] at h
  by_cases h40 : 40 = i
  · rw [if_pos h40] at h; injection h with h; subst h40; subst h; exact ⟨_, _, _, _, at40, link40⟩
  rw [if_neg h40] at h
  by_cases h41 : 41 = i
  · rw [if_pos h41] at h; injection h with h; subst h41; subst h; exact ⟨_, _, _, _, at41, link41⟩
  rw [if_neg h41] at h
  by_cases h42 : 42 = i
  · rw [if_pos h42] at h; injection h with h; subst h42; subst h; exact ⟨_, _, _, _, at42, link42⟩
  rw [if_neg h42] at h
  by_cases h43 : 43 = i
  · rw [if_pos h43] at h; injection h with h; subst h43; subst h; exact ⟨_, _, _, _, at43, link43⟩
  rw [if_neg h43] at h
  by_cases h44 : 44 = i
  · rw [if_pos h44] at h; injection h with h; subst h44; subst h; exact ⟨_, _, _, _, at44, link44⟩
  rw [if_neg h44] at h
  by_cases h45 : 45 = i
  · rw [if_pos h45] at h; injection h with h; subst h45; subst h; exact ⟨_, _, _, _, at45, link45⟩
  rw [if_neg h45] at h
  by_cases h46 : 46 = i
  · rw [if_pos h46] at h; injection h with h; subst h46; subst h; exact ⟨_, _, _, _, at46, link46⟩
  rw [if_neg h46] at h
  by_cases h47 : 47 = i
  · rw [if_pos h47] at h; injection h with h; subst h47; subst h; exact ⟨_, _, _, _, at47, link47⟩
  rw [if_neg h47] at h
  by_cases h48 : 48 = i
  · rw [if_pos h48] at h; injection h with h; subst h48; subst h; exact ⟨_, _, _, _, at48, link48⟩
  rw [if_neg h48] at h
  by_cases h49 : 49 = i
  · rw [if_pos h49] at h; injection h with h; subst h49; subst h; exact ⟨_, _, _, _, at49, link49⟩
  rw [if_neg h49] at h
  by_cases h50 : 50 = i
  · rw [if_pos h50] at h; injection h with h; subst h50; subst h; exact ⟨_, _, _, _, at50, link50⟩
  rw [if_neg h50] at h
  by_cases h51 : 51 = i
  · rw [if_pos h51] at h; injection h with h; subst h51; subst h; exact ⟨_, _, _, _, at51, link51⟩
  rw [if_neg h51] at h
  by_cases h52 : 52 = i
  · rw [if_pos h52] at h; injection h with h; subst h52; subst h; exact ⟨_, _, _, _, at52, link52⟩
  rw [if_neg h52] at h
  by_cases h53 : 53 = i
  · rw [if_pos h53] at h; injection h with h; subst h53; subst h; exact ⟨_, _, _, _, at53, link53⟩
  rw [if_neg h53] at h
  by_cases h54 : 54 = i
  · rw [if_pos h54] at h; injection h with h; subst h54; subst h; exact ⟨_, _, _, _, at54, link54⟩
  rw [if_neg h54] at h
  by_cases h55 : 55 = i
  · rw [if_pos h55] at h; injection h with h; subst h55; subst h; exact ⟨_, _, _, _, at55, link55⟩
  rw [if_neg h55] at h
  by_cases h56 : 56 = i
  · rw [if_pos h56] at h; injection h with h; subst h56; subst h; exact ⟨_, _, _, _, at56, link56⟩
  rw [if_neg h56] at h
  by_cases h57 : 57 = i
  · rw [if_pos h57] at h; injection h with h; subst h57; subst h; exact ⟨_, _, _, _, at57, link57⟩
  rw [if_neg h57] at h
  by_cases h58 : 58 = i
  · rw [if_pos h58] at h; injection h with h; subst h58; subst h; exact ⟨_, _, _, _, at58, link58⟩
  rw [if_neg h58] at h
  by_cases h59 : 59 = i
  · rw [if_pos h59] at h; injection h with h; subst h59; subst h; exact ⟨_, _, _, _, at59, link59⟩
  rw [if_neg h59] at h
  by_cases h60 : 60 = i
  · rw [if_pos h60] at h; injection h with h; subst h60; subst h; exact ⟨_, _, _, _, at60, link60⟩
  rw [if_neg h60] at h
  by_cases h61 : 61 = i
  · rw [if_pos h61] at h; injection h with h; subst h61; subst h; exact ⟨_, _, _, _, at61, link61⟩
  rw [if_neg h61] at h
  simp at h

theorem follows : Try.prog.follows .mixedOrders = true := by kernel_rfl

end Go.Proofs.Ytlbhbjaimcinbaa.AI

/- From the interpreter's answer to the statement's words: what is left behind a law's call. -/
set_option linter.unusedSimpArgs false
namespace Go.Proofs.Ytlbhbjaimcinbaa.AI
open Go Go.ChangeShapes Go.WideShapes Go.ChangeAt Go.RowKit

section
variable {H : Type} {enc : TypeId × Value → H} {P : Program}

/-- Arguments of any type that can be read: where nothing old has turned they read as they did. -/
theorem stay_all (hl : laidOutB P = true) {W W' : World} (hb : Below W.heap.size W W') : ∀ {ts : List TypeId} {vs : List Value} {ds : List (DataW H)} {ps : List MemPlace},
    (∀ t ∈ ts, P.readableRec t = true ∧ t < P.types.size) → DataW.TrodAll enc P W 0 (fun _ => true) true ts vs ds ps → (∀ x ∈ ps, x.block < W.heap.size) → ∀ sp : Nat → Bool, (∀ x ∈ ps, sp x.block = true) →
    DataW.TrodAll enc P W' 0 sp true ts vs ds ps := by
  intro ts
  induction ts with
  | nil => intro vs ds ps _ h _ sp _; obtain ⟨rfl, rfl, rfl⟩ := trodAll_nil h; exact trodAll_mk0
  | cons t ts ih =>
    intro vs ds ps ht h hlt sp hsp
    obtain ⟨v, vs1, d, ds1, p, q, rfl, rfl, rfl, h1, h2⟩ := trodAll_cons h
    have h3 := ih (fun u hu => ht u (List.mem_cons_of_mem _ hu)) h2 (fun x hx => hlt x (List.mem_append_right _ hx)) sp (fun x hx => hsp x (List.mem_append_right _ hx))
    have h4 := WideElems.Trod_stays hl (ht t List.mem_cons_self).1 (ht t List.mem_cons_self).2 h1 (fun x hx => hb.same (hlt x (List.mem_append_left _ hx))) (fun x hx => hsp x (List.mem_append_left _ hx))
    exact ⟨p, q, h4, h3, rfl⟩

/-- Behind a call that has written to memory of its own alone. -/
theorem law_post {f : Func} {s : ChangeSpec} {apart fresh handsOn again : Bool} {W W' : World} {args : Array Value} {v : Value} {ds gs : List (DataW H)} {before : List MemPlace} {rs : List (DataW H)} (hl : laidOutB P = true)
    (hW : DataW.Whole enc P f.params.toList s.vars apart W args.toList ds gs before) (hv : s.vars = []) (hfn : s.fn H (ds ++ gs) = { results := rs, args := ds }) (hpar : ∀ t ∈ f.params.toList, P.readableRec t = true ∧ t < P.types.size)
    (hb : Below W.heap.size W W')
    (hres : ∀ (b : Nat) (sp : Nat → Bool) (hd : Bool), DataW.TrodAll enc P W' b sp hd f.resultTypes.toList (v.resultList f.resultTypes.size) rs [])
    (hok : ∀ (j : Nat) (t : TypeId) (r : Value), f.resultTypes[j]? = some t → (v.resultList f.resultTypes.size)[j]? = some r → Value.okWide P W' .any 0 t r) :
    s.post enc P f apart fresh handsOn again W args v W' := by
  have hlt := hW.lt
  have hW0 := hW
  obtain ⟨p, q, hA, hV, hpq, hz, hn⟩ := hW
  rw [hv] at hV
  obtain ⟨hgs, hq⟩ := trodVars_none hV
  subst hq; subst hpq
  rw [List.append_nil] at *
  have hargs : ∀ sp : Nat → Bool, (∀ x ∈ p, sp x.block = true) → DataW.TrodAll enc P W' 0 sp true f.params.toList args.toList ds p := fun sp hsp => stay_all hl hb hpar hA hlt sp hsp
  have hold : ∀ x ∈ p, (fun b => decide (b < W.heap.size)) x.block = true := fun x hx => by simpa using hlt x hx
  have hnone : ∀ sp : Nat → Bool, DataW.TrodVars enc P W' sp s.vars ([] : List (DataW H)) [] := fun sp => by rw [hv]; rfl
  refine ⟨ds, gs, p, [], p, [], hW0, ?_, ?_, ?_, World.keptBut_mono (fun x hx => ⟨hx, .inr (.inl hx)⟩) (hb.frame _), fun _ => ?_⟩
  · rw [hfn]; exact hres _ _ _
  · rw [hfn]; exact hargs _ hold
  · rw [hfn]; exact hnone _
  · refine ⟨hok, rs ++ ds, [], ([] ++ p) ++ [], ⟨[] ++ p, [], ?_, ?_, rfl, ?_, ?_⟩, ?_⟩
    · exact trodAll_append (hargs _ (fun _ _ => rfl)) (hres _ _ _)
    · exact hnone _
    · intro b off hp
      have hp' : MemPlace.cell b off ∈ p := by simpa using hp
      rw [hb.frozen (hlt _ hp')]
      exact hz b off hp'
    · intro ha
      simpa using hn ha
    · intro x hx _
      simpa using hx
end

/-- A law that answers true in the interpreter does so in the program. -/
theorem law_calls {k : Nat} {vs : List Value} {H : Heap} {B : Map} {W : World} {args : List Value} (h : Op1 (AC tbl k vs H) fun v _ => v = .bool true) (hr : HR sig W.heap.size B H W) (hro : ∀ i b, hget H i = some b → b.rw = false)
    (hv : VRs sig B vs args) : Calls Try.prog (sig k) ⟨args⟩ W fun e W' => e = .returned (.bool true) ∧ Below W.heap.size W W' := by
  obtain ⟨v, H', hac, rfl⟩ := h
  obtain ⟨_, hc⟩ := AC_sound tbl (base := W.heap.size) follows linked k vs H _ H' hac
  refine (hc B W args hr hv).mono fun e W' he => ?_
  obtain ⟨v', B', rfl, r1, r2, r3⟩ := he
  rw [r1.of_bool]
  exact ⟨rfl, r3.os, r3.tape, r3.output, r3.size, fun g hg => r3.keep g hg (by rintro ⟨i, b, p, hi, hb, _⟩; rw [hro i b hi] at hb; simp at hb)⟩

theorem own : ownKnob Try.prog.godebug = none := by kernel_rfl
theorem laidOut : laidOutB Try.prog = true := by kernel_rfl

end Go.Proofs.Ytlbhbjaimcinbaa.AI

/- A list of fields among a law's arguments. -/
set_option linter.unusedSimpArgs false
namespace Go.Proofs.Ytlbhbjaimcinbaa.AI
open Go Go.ChangeShapes Go.WideShapes Go.ChangeAt Go.RowKit

theorem is64_wf {n : Int} (h : (Lit.int .i64 n).wf = true) : Is64 n := by
  simp only [Lit.wf, Bool.and_eq_true, decide_eq_true_eq] at h
  simp [IntKind.min, IntKind.max, IntKind.signed, IntKind.bits] at h
  exact ⟨by omega, by omega⟩

theorem mapM_get {α β : Type} {f : α → Option β} : ∀ {l : List α} {r : List β}, l.mapM f = some r → ∀ (i : Nat) (x : α), l[i]? = some x → ∃ y, r[i]? = some y ∧ f x = some y := by
  intro l
  induction l with
  | nil => intro r _ i x h; simp at h
  | cons a l ih =>
    intro r h i x hx
    simp only [List.mapM_cons, bind, Option.bind_eq_some_iff, pure, Option.some.injEq] at h
    obtain ⟨y, hy, ys, hys, rfl⟩ := h
    cases i with
    | zero => simp at hx; subst hx; exact ⟨y, rfl, hy⟩
    | succ i => exact ih hys i x (by simpa using hx)

/-- What one field's four cells are. -/
theorem field_open {H : Type} {enc : TypeId × Value → H} {W : World} {n : Nat} {cs : List Value} {y : DataW H × List MemPlace}
    (h : DataW.trod enc Try.prog W 0 (fun _ => true) true n 30 cs = some y) : ∃ f : Fld, cs = f.cells ∧ Is64 f.kind ∧ Is64 f.width ∧ Is64 f.n := by
  obtain ⟨xs, m, rfl, _, hl, hx, hf⟩ := DataW.trod_struct Try.underlying30 h
  have c30 : Try.prog.cellsOf 30 = 4 := by kernel_rfl
  have c3 : Try.prog.cellsOf 3 = 1 := by kernel_rfl
  have c9 : Try.prog.cellsOf 9 = 1 := by kernel_rfl
  rw [c30] at hl
  obtain ⟨a, b, c, d, rfl⟩ : ∃ a b c d, cs = [a, b, c, d] := by
    match cs, hl with
    | [a, b, c, d], _ => exact ⟨a, b, c, d, rfl⟩
  have hxl : xs.length = 4 := hx
  have f0 : DataW.trod enc Try.prog W 0 (fun _ => true) true m 3 ((List.drop 0 [a, b, c, d]).take (Try.prog.cellsOf 3)) = xs[0]? := hf 0 _ rfl
  have f1 : DataW.trod enc Try.prog W 0 (fun _ => true) true m 3 ((List.drop 1 [a, b, c, d]).take (Try.prog.cellsOf 3)) = xs[1]? := hf 1 _ rfl
  have f2 : DataW.trod enc Try.prog W 0 (fun _ => true) true m 3 ((List.drop 2 [a, b, c, d]).take (Try.prog.cellsOf 3)) = xs[2]? := hf 2 _ rfl
  have f3 : DataW.trod enc Try.prog W 0 (fun _ => true) true m 9 ((List.drop 3 [a, b, c, d]).take (Try.prog.cellsOf 9)) = xs[3]? := hf 3 _ rfl
  rw [c3] at f0 f1 f2
  rw [c9] at f3
  simp only [List.drop_zero, List.drop_succ_cons, List.take_succ_cons, List.take_zero] at f0 f1 f2 f3
  obtain ⟨x0, hx0⟩ : ∃ x, xs[0]? = some x := ⟨_, List.getElem?_eq_getElem (by omega)⟩
  obtain ⟨x1, hx1⟩ : ∃ x, xs[1]? = some x := ⟨_, List.getElem?_eq_getElem (by omega)⟩
  obtain ⟨x2, hx2⟩ : ∃ x, xs[2]? = some x := ⟨_, List.getElem?_eq_getElem (by omega)⟩
  obtain ⟨x3, hx3⟩ : ∃ x, xs[3]? = some x := ⟨_, List.getElem?_eq_getElem (by omega)⟩
  obtain ⟨n0, e0, _, w0⟩ := DataW.trod_int Try.underlying3 (f0.trans hx0)
  obtain ⟨n1, e1, _, w1⟩ := DataW.trod_int Try.underlying3 (f1.trans hx1)
  obtain ⟨n2, e2, _, w2⟩ := DataW.trod_int Try.underlying3 (f2.trans hx2)
  obtain ⟨s, e3, _, _⟩ := DataW.trod_string Try.underlying9 (f3.trans hx3)
  simp only [List.cons.injEq, and_true] at e0 e1 e2 e3
  subst e0 e1 e2 e3
  exact ⟨⟨n0, n1, n2, s⟩, rfl, is64_wf w0, is64_wf w1, is64_wf w2⟩

theorem flat_idx : ∀ (l : List Fld) (j : Nat) (x : Value), (flat l)[j]? = some x → ∃ i k f, j = i * 4 + k ∧ l[i]? = some f ∧ f.cells[k]? = some x := by
  intro l
  induction l with
  | nil => intro j x h; simp [flat] at h
  | cons g l ih =>
    intro j x h
    have e : flat (g :: l) = g.cells ++ flat l := by simp [flat]
    rw [e, List.getElem?_append] at h
    have hl : g.cells.length = 4 := rfl
    split at h
    · exact ⟨0, j, g, by omega, rfl, h⟩
    · obtain ⟨i, k, f, h1, h2, h3⟩ := ih _ _ h
      exact ⟨i + 1, k, f, by omega, by simpa using h2, h3⟩
theorem cells_atom {f : Fld} {k : Nat} {x : Value} (h : f.cells[k]? = some x) : atom x = true := by
  have := List.mem_of_getElem? h
  simp only [Fld.cells, List.mem_cons, List.not_mem_nil, or_false] at this
  rcases this with rfl | rfl | rfl | rfl <;> rfl
theorem add_none (b o n : Nat) : (⟨b, o, none⟩ : Addr).add n = ⟨b, o + n, none⟩ := by
  unfold Addr.add; split
  · rename_i h; subst h; rfl
  · rfl

/-- A list of fields, as the law's call has it. -/
structure Fields (W : World) (v : Value) (l : List Fld) (va : Value) (B : Map) (H : Heap) : Prop where
  rel : VR sig B va v
  heap : HR sig W.heap.size B H W
  ro : ∀ i b, hget H i = some b → b.rw = false
  la : LA H va l
  ok : ∀ f ∈ l, Is64 f.kind ∧ Is64 f.width ∧ Is64 f.n

theorem fields_open {H : Type} {enc : TypeId × Value → H} {W : World} {base : Nat} {v : Value} {d : DataW H} {ps : List MemPlace} (hval : Value.okWide Try.prog W .any base 22 v) (h : DataW.Trod enc Try.prog W 0 (fun _ => true) true 22 v d ps) :
    ∃ l va B Hp, Fields W v l va B Hp := by
  obtain ⟨a0, len0, cap0, rfl⟩ := okWide_slice Try.underlying22 hval
  obtain ⟨fuel, hf⟩ := h
  rcases DataW.trod_slice Try.underlying22 hf with ⟨hc, _⟩ | ⟨a, len, cap, elems, rest, n, rfl, hc, _, _, hlc, _, hel, hget', _, _⟩
  · have hc' : Value.slice a0 len0 cap0 = .slice none 0 0 := by simpa [Value.cells] using hc
    rw [hc']
    exact ⟨[], .slice none 0 0, fun _ => none, [], .atom _ rfl, HR.nothing (Nat.le_refl _), fun i b hi => by simp [hget] at hi, .inl ⟨rfl, rfl⟩, fun f hf => by simp at hf⟩
  · have hc' : Value.slice a0 len0 cap0 = .slice (some a) len cap := by simpa [Value.cells] using hc
    rw [hc']
    have c30 : Try.prog.cellsOf 30 = 4 := by kernel_rfl
    rw [c30] at hget'
    by_cases hl0 : len = 0
    · subst hl0
      refine ⟨[], .slice (some ⟨0, 0, none⟩) 0 4, fun i => if i = 0 then some ⟨0, 0, none⟩ else none, [none], .empty 0 0 4 cap ⟨0, 0, none⟩ (some a) rfl rfl, ⟨fun i b hi => ?_, fun i b hi => ?_, fun i j b c p q hi => ?_, fun i p hp => ?_, Nat.le_refl _⟩, fun i b hi => ?_, .inr ⟨0, rfl, .inl rfl⟩, fun f hf => by simp at hf⟩
      · cases i <;> simp [hget] at hi
      · cases i <;> simp [hget] at hi
      · cases i <;> simp [hget] at hi
      · split at hp
        · rename_i h; subst h; simp
        · simp at hp
      · cases i <;> simp [hget] at hi
    · -- each element's cells
      have each : ∀ i, i < len → ∃ (f : Fld), (Is64 f.kind ∧ Is64 f.width ∧ Is64 f.n) ∧ ∀ k x, f.cells[k]? = some x → W.cell? ((a.add (i * 4)).add k) = some x := by
        intro i hi
        have h1 := hget' i hi
        have h2 : ∃ y, elems[i]? = some y := ⟨_, List.getElem?_eq_getElem (by omega)⟩
        obtain ⟨y, hy⟩ := h2
        rw [hy, Option.bind_eq_some_iff] at h1
        obtain ⟨cs, hcs, htr⟩ := h1
        obtain ⟨f, rfl, hok⟩ := field_open htr
        refine ⟨f, hok, fun k x hx => ?_⟩
        unfold World.cells? at hcs
        split at hcs
        · have hk : k < 4 := by have := (List.getElem?_eq_some_iff.1 hx).1; simpa [Fld.cells] using this
          obtain ⟨z, hz, hw⟩ := mapM_get hcs k k (by rw [List.getElem?_range hk])
          rw [hx] at hz; injection hz with hz; subst hz
          exact hw
        · simp at hcs
      obtain ⟨l, hll, hlf⟩ : ∃ l : List Fld, l.length = len ∧ ∀ i f, l[i]? = some f → (Is64 f.kind ∧ Is64 f.width ∧ Is64 f.n) ∧ ∀ k x, f.cells[k]? = some x → W.cell? ((a.add (i * 4)).add k) = some x := by
        refine ⟨(List.range len).map fun i => if h : i < len then (each i h).choose else ⟨0, 0, 0, ⟨#[]⟩⟩, by simp, fun i f hf => ?_⟩
        simp only [List.getElem?_map, Option.map_eq_some_iff] at hf
        obtain ⟨j, hj, rfl⟩ := hf
        have hil : i < len := by have := (List.getElem?_eq_some_iff.1 hj).1; simpa using this
        rw [List.getElem?_range hil] at hj
        injection hj with hj; subst hj
        rw [dif_pos hil]
        exact (each i hil).choose_spec
      obtain ⟨f0, hf0⟩ : ∃ f, l[0]? = some f := ⟨_, List.getElem?_eq_getElem (by omega)⟩
      have hcell0 := (hlf 0 f0 hf0).2 0 _ rfl
      have ha0 : (a.add (0 * 4)).add 0 = a := by simp [Addr.add]
      rw [ha0] at hcell0
      obtain ⟨g, o, sp⟩ := a
      have hsp : sp = none := by
        unfold World.cell? at hcell0
        split at hcell0
        · cases sp with
          | none => rfl
          | some q => simp at hcell0
        · simp at hcell0
      subst hsp
      have hg : g < W.heap.size := by
        unfold World.cell? at hcell0
        split at hcell0
        · rename_i h; exact (Array.getElem?_eq_some_iff.1 h).1
        · simp at hcell0
      refine ⟨l, .slice (some ⟨0, 0, none⟩) l.length 4, fun i => if i = 0 then some ⟨g, o, none⟩ else none, [some ⟨false, flat l⟩], ?_, ⟨fun i b hi hb => ?_, fun i b hi hb => ?_, fun i j b c p q hi hj hb => ?_, fun i p hp => ?_, Nat.le_refl _⟩, fun i b hi => ?_, .inr ⟨0, rfl, .inr rfl⟩, fun f hf => ?_⟩
      · rw [hll]
        exact VR.slice 0 0 len 4 cap ⟨g, o, none⟩ rfl hlc (fun s hs => by simp at hs)
      · cases i with
        | zero => simp [hget] at hi; subst hi; simp at hb
        | succ i => simp [hget] at hi
      · cases i with
        | succ i => simp [hget] at hi
        | zero =>
          simp [hget] at hi; subst hi
          refine ⟨g, o, rfl, hg, fun j x hx => ?_⟩
          obtain ⟨i, k, f, rfl, h2, h3⟩ := flat_idx l j x hx
          have := (hlf i f h2).2 k x h3
          rw [add_none, add_none] at this
          exact ⟨x, by rw [← Nat.add_assoc]; exact this, .atom x (cells_atom h3)⟩
      · cases i with
        | zero => simp [hget] at hi; subst hi; simp at hb
        | succ i => simp [hget] at hi
      · split at hp
        · rename_i h; subst h; simp
        · simp at hp
      · cases i with
        | zero => simp [hget] at hi; subst hi; rfl
        | succ i => simp [hget] at hi
      · obtain ⟨i, hi⟩ := List.getElem?_of_mem hf
        exact (hlf i f hi).1

end Go.Proofs.Ytlbhbjaimcinbaa.AI

/- BitioReads holds, whatever the input. -/
set_option linter.unusedVariables false
namespace Go.Proofs.Ytlbhbjaimcinbaa
open Go.ChangeShapes Go.WideShapes Go.ChangeAt Go.RowKit

set_option maxRecDepth 100000 in
theorem bitioReads_lifted (os : Os) (started : os.Started) (H : Type) (enc : TypeId × Value → H) :
    ReturnsInHanded {} Try.checked os 7 .any (Rows.bitioReadsSpec.pre6 enc Try.prog Try.f7 Rows.bitioReadsRow.domain false) (Rows.bitioReadsSpec.post enc Try.prog Try.f7 false true false false) := by
  refine returnsInHanded_of_change (C := Try.checked) AI.own started (by kernel_rfl) Try.func7
    (ChangeSpec.witness6 (enc := enc) (C := Try.checked) false ⟨#[], #[.string ⟨#[]⟩, .slice none 0 0], []⟩ 8 (by kernel_rfl) (by kernel_rfl) (by kernel_rfl) (by kernel_rfl)) ?_
  intro W base args ds gs before hval0 hW hcnd _
  have hval : ∀ (j : Nat) t v, Try.f7.params[j]? = some t → args[j]? = some v → Value.okWide Try.prog W .any base t v := hval0
  have hW' := hW
  obtain ⟨p, q, hA0, hV, rfl, hfz, hnd⟩ := hW
  have hA : DataW.TrodAll enc Try.prog W 0 (fun _ => true) true Try.f7.params.toList args.toList ds p := hA0
  rw [Try.params7] at hA hval
  obtain ⟨v0, v1, d0, d1, p0, p1, rfl, rfl, rfl, h0, h1⟩ := trodAll_two hA
  obtain ⟨rfl, rfl⟩ := trodVars_none hV
  obtain ⟨s, rfl, rfl, rfl, hs⟩ := Go.ChangeMaps.open_string Try.underlying9 (hval 0 9 v0 rfl rfl) h0
  obtain ⟨l, va, B, Hp, hF⟩ := AI.fields_open (hval 1 22 v1 rfl rfl) h1
  clear hA0 hval0
  have hc := AI.law_calls (k := 7) (args := [.string s, v1]) (AI.reads hF.la hF.ok) hF.heap hF.ro (.cons (.atom _ rfl) (.cons hF.rel .nil))
  refine hc.mono fun e W' ⟨he, hb⟩ => ?_
  subst he
  exact ⟨_, rfl, AI.law_post AI.laidOut hW' rfl rfl (by rw [Try.params7]; intro t ht; simp at ht; rcases ht with rfl | rfl <;> exact ⟨by kernel_rfl, of_decide_eq_true (by kernel_rfl)⟩) hb
    (fun _ _ _ => trodAll_mk1 (shut_bool Try.underlying4 _)) (ok_one (by kernel_rfl) rfl (okWide_bool_mk Try.underlying4 _))⟩

theorem bitioReads_holds : Rows.BitioReadsSaid :=
  OpenClaim.holds_of_wide 7 Try.f7 rfl rfl rfl rfl rfl rfl rfl ⟨rfl, rfl, rfl, rfl, rfl⟩ rfl rfl rfl rfl rfl (by kernel_rfl) Try.func7 (by kernel_rfl)
    (of_decide_eq_true (by kernel_rfl)) (by unfold Func.isWrapper; first | (rw [if_pos (by decide +kernel)]; kernel_rfl) | (rw [if_neg (by decide +kernel)]; exact ⟨rfl, rfl⟩))
    (fun os started H enc _ => bitioReads_lifted os started H enc)

end Go.Proofs.Ytlbhbjaimcinbaa

