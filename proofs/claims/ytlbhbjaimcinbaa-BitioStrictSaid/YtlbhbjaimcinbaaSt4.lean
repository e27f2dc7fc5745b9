/- BitioStrict holds, whatever the input. -/
import Derived.Calls
import Derived.Orders
import Derived.RowKit3
import Derived.KernelRfl
import Derived.WalkKit
import Derived.Laws.IdiomStrings
import Derived.Laws.StructEq
import Derived.LoopN
import Derived.Test.YtlbhbjaimcinbaaRows
import Derived.ProofKit
import Derived.OpenShut
import Derived.ChangeMaps5
import Derived.Test.YtlbhbjaimcinbaaSt3
/- Fields, and how the law writes and reads them. -/
set_option linter.unusedSimpArgs false
namespace Go.Proofs.Ytlbhbjaimcinbaa.AI
open Go

structure Fld where
  kind : Int
  width : Int
  n : Int
  s : ByteArray
def Fld.cells (f : Fld) : List Value := [.int .i64 f.kind, .int .i64 f.width, .int .i64 f.n, .string f.s]
def Fld.v (f : Fld) : Value := .agg #[.int .i64 f.kind, .int .i64 f.width, .int .i64 f.n, .string f.s]
structure Fld.Ok (f : Fld) : Prop where
  kind : Is64 f.kind
  width : Is64 f.width
  n : Is64 f.n
  size : f.s.size ≤ 100000

def WS.write (s : WS) (f : Fld) : WS :=
  if f.kind = 0 then s.unsigned f.width f.n else if f.kind = 1 then s.signed f.width f.n else if f.kind = 2 then s.flag (decide (f.n ≠ 0)) else if f.kind = 3 then s.text f.width f.s else s

theorem Wrote.push {H : Heap} {p : Nat} {o : Option Nat} {s : WS} {K : Value → Heap → Prop} (b : Option Blk) (h : Wrote H p o s K) : Wrote (H ++ [b]) p o s (fun _ H1 => K (.tuple #[]) H1) := by
  intro H' o' k1 k2 k3
  refine h H' o' k1 (((Frm.refl _ _).push b).trans k2 (fun i hi => .inl hi)) fun q hq => ?_
  rcases k3 q hq with k | k
  · exact .inl k
  · right; rw [List.length_append] at k; omega
theorem WSt.push {H : Heap} {p : Nat} {o : Option Nat} {bs : List Bool} {err : Int} (h : WSt H p o bs err) (b : Option Blk) : WSt (H ++ [b]) p o bs err :=
  h.frame (O := []) ((Frm.refl _ _).push b) (by simp) (by simp)

theorem write_spec {H : Heap} {p : Nat} {o : Option Nat} {s : WS} {f : Fld} (h : WSt H p o s.bs s.err) (hlen : s.bs.length ≤ 524288) (hf : f.Ok) {K : Value → Heap → Prop}
    (hk : Wrote H p o (s.write f) K) : Op1 (AC tbl 15 [.pointer (some ⟨p, 0, none⟩), f.v] H) K := by
  apply AC_wp (F := F15) rfl (by simp [F15]) (.inl rfl)
  have hp := h.push (some ⟨true, [.int .i64 f.kind, .int .i64 f.width, .int .i64 f.n, .string f.s]⟩)
  have hk' := hk.push (some ⟨true, [.int .i64 f.kind, .int .i64 f.width, .int .i64 f.n, .string f.s]⟩)
  have hs := hf.size
  by_cases h0 : f.kind = 0
  · have e : s.write f = s.unsigned f.width f.n := by simp [WS.write, h0]
    rw [e] at hk'
    simp only [F15, Fld.v, ↓RW_seq, ↓AW_ret, ↓AW_skip, ↓AW_exit, ↓AW_block, ↓RW_cond, ↓RW_reg, ↓RW_regd, ↓RO_op, ↓RO_t, ↓RO_f, ↓RO_nt, ↓RO_nf, ↓AO_nil, ↓RD_op, ↓RD_t, ↓RD_f, ↓RD_nt, ↓RD_fe, ↓RD_nte, ↓RD_nf, ↓AOD_nil, CDops_eff, CDops_no, CDops_1, CDops_2, Again_nil, Again_cons, Same1_int, Same1_bool, Same1_str, Same1_ptr, Same1_slice, Same1_nil, CSeq_ap, CReg_ap, COps_ap, Then_normal, Then_ret, Then_exit, InBlock_normal, InBlock_ret, InBlock_self, InBlock_exit, Ends_ret, Ends_normal, ares, tup, finO_some, fin_same, fin_false, argsE, dval, aop, ev, evs, evo, evp, fillL, addrOf, intOf?, lk_put, lk_none, lk_cons, lk_nil, keep_nil, keep_cons, Op1_some, Option.map_some, Option.bind_some, reduceIte, Nat.reduceEqDiff, binV_lss, binV_leq, binV_gtr, binV_geq, binV_eql, binV_neq, binV_add, binV_sub, binV_mul, un_not, CondA_false, CondA_true, Bool.not_true, Bool.not_false, reduceCtorEq, decide_true, decide_false, Nat.add_zero, Nat.zero_add, Nat.reduceAdd, Nat.reduceMul, Bool.bne_false, Bool.bne_true, eqPtr, Option.isNone_some, Option.isNone_none, List.getElem?_cons_zero, List.getElem?_cons_succ, Option.isSome_none, Option.isSome_some , hload, hstore, List.length_cons, List.length_nil, Nat.reduceAdd, Nat.reduceLeDiff, decide_true, List.all_cons, List.all_nil, one, Bool.and_true, Bool.true_and, Bool.and_self, splice, List.set_cons_zero, List.set_cons_succ, List.getElem?_cons_zero, List.getElem?_cons_succ, vc_int, vc_slice, vc_str, vc_bool, vc_int', vc_slice', vc_str', vc_bool', List.length_set, List.length_append, Nat.lt_irrefl, Nat.lt_add_one, and_self, true_and, and_true, lenV, cellsOfSlice, Nat.le_refl, if_true , vc_agg', hget_append_self, h0] at hp hk' ⊢
    exact Op1_mono (unsigned_spec hp hlen hf.n hk') fun v H1 hv => by simpa only [↓RW_seq, ↓AW_ret, ↓AW_skip, ↓AW_exit, ↓AW_block, ↓RW_cond, ↓RW_reg, ↓RW_regd, ↓RO_op, ↓RO_t, ↓RO_f, ↓RO_nt, ↓RO_nf, ↓AO_nil, ↓RD_op, ↓RD_t, ↓RD_f, ↓RD_nt, ↓RD_fe, ↓RD_nte, ↓RD_nf, ↓AOD_nil, CDops_eff, CDops_no, CDops_1, CDops_2, Again_nil, Again_cons, Same1_int, Same1_bool, Same1_str, Same1_ptr, Same1_slice, Same1_nil, CSeq_ap, CReg_ap, COps_ap, Then_normal, Then_ret, Then_exit, InBlock_normal, InBlock_ret, InBlock_self, InBlock_exit, Ends_ret, Ends_normal, ares, tup, finO_some, fin_same, fin_false, argsE, dval, aop, ev, evs, evo, evp, fillL, addrOf, intOf?, lk_put, lk_none, lk_cons, lk_nil, keep_nil, keep_cons, Op1_some, Option.map_some, Option.bind_some, reduceIte, Nat.reduceEqDiff, binV_lss, binV_leq, binV_gtr, binV_geq, binV_eql, binV_neq, binV_add, binV_sub, binV_mul, un_not, CondA_false, CondA_true, Bool.not_true, Bool.not_false, reduceCtorEq, decide_true, decide_false, Nat.add_zero, Nat.zero_add, Nat.reduceAdd, Nat.reduceMul, Bool.bne_false, Bool.bne_true, eqPtr, Option.isNone_some, Option.isNone_none, List.getElem?_cons_zero, List.getElem?_cons_succ, Option.isSome_none, Option.isSome_some ] using hv
  · by_cases h1 : f.kind = 1
    · have e : s.write f = s.signed f.width f.n := by simp [WS.write, h1]
      rw [e] at hk'
      have n0 : ¬ (1 : Int) = 0 := by omega
      simp only [F15, Fld.v, ↓RW_seq, ↓AW_ret, ↓AW_skip, ↓AW_exit, ↓AW_block, ↓RW_cond, ↓RW_reg, ↓RW_regd, ↓RO_op, ↓RO_t, ↓RO_f, ↓RO_nt, ↓RO_nf, ↓AO_nil, ↓RD_op, ↓RD_t, ↓RD_f, ↓RD_nt, ↓RD_fe, ↓RD_nte, ↓RD_nf, ↓AOD_nil, CDops_eff, CDops_no, CDops_1, CDops_2, Again_nil, Again_cons, Same1_int, Same1_bool, Same1_str, Same1_ptr, Same1_slice, Same1_nil, CSeq_ap, CReg_ap, COps_ap, Then_normal, Then_ret, Then_exit, InBlock_normal, InBlock_ret, InBlock_self, InBlock_exit, Ends_ret, Ends_normal, ares, tup, finO_some, fin_same, fin_false, argsE, dval, aop, ev, evs, evo, evp, fillL, addrOf, intOf?, lk_put, lk_none, lk_cons, lk_nil, keep_nil, keep_cons, Op1_some, Option.map_some, Option.bind_some, reduceIte, Nat.reduceEqDiff, binV_lss, binV_leq, binV_gtr, binV_geq, binV_eql, binV_neq, binV_add, binV_sub, binV_mul, un_not, CondA_false, CondA_true, Bool.not_true, Bool.not_false, reduceCtorEq, decide_true, decide_false, Nat.add_zero, Nat.zero_add, Nat.reduceAdd, Nat.reduceMul, Bool.bne_false, Bool.bne_true, eqPtr, Option.isNone_some, Option.isNone_none, List.getElem?_cons_zero, List.getElem?_cons_succ, Option.isSome_none, Option.isSome_some , hload, hstore, List.length_cons, List.length_nil, Nat.reduceAdd, Nat.reduceLeDiff, decide_true, List.all_cons, List.all_nil, one, Bool.and_true, Bool.true_and, Bool.and_self, splice, List.set_cons_zero, List.set_cons_succ, List.getElem?_cons_zero, List.getElem?_cons_succ, vc_int, vc_slice, vc_str, vc_bool, vc_int', vc_slice', vc_str', vc_bool', List.length_set, List.length_append, Nat.lt_irrefl, Nat.lt_add_one, and_self, true_and, and_true, lenV, cellsOfSlice, Nat.le_refl, if_true , vc_agg', hget_append_self, h1, n0] at hp hk' ⊢
      exact Op1_mono (signed_spec hp hlen hk') fun v H1 hv => by simpa only [↓RW_seq, ↓AW_ret, ↓AW_skip, ↓AW_exit, ↓AW_block, ↓RW_cond, ↓RW_reg, ↓RW_regd, ↓RO_op, ↓RO_t, ↓RO_f, ↓RO_nt, ↓RO_nf, ↓AO_nil, ↓RD_op, ↓RD_t, ↓RD_f, ↓RD_nt, ↓RD_fe, ↓RD_nte, ↓RD_nf, ↓AOD_nil, CDops_eff, CDops_no, CDops_1, CDops_2, Again_nil, Again_cons, Same1_int, Same1_bool, Same1_str, Same1_ptr, Same1_slice, Same1_nil, CSeq_ap, CReg_ap, COps_ap, Then_normal, Then_ret, Then_exit, InBlock_normal, InBlock_ret, InBlock_self, InBlock_exit, Ends_ret, Ends_normal, ares, tup, finO_some, fin_same, fin_false, argsE, dval, aop, ev, evs, evo, evp, fillL, addrOf, intOf?, lk_put, lk_none, lk_cons, lk_nil, keep_nil, keep_cons, Op1_some, Option.map_some, Option.bind_some, reduceIte, Nat.reduceEqDiff, binV_lss, binV_leq, binV_gtr, binV_geq, binV_eql, binV_neq, binV_add, binV_sub, binV_mul, un_not, CondA_false, CondA_true, Bool.not_true, Bool.not_false, reduceCtorEq, decide_true, decide_false, Nat.add_zero, Nat.zero_add, Nat.reduceAdd, Nat.reduceMul, Bool.bne_false, Bool.bne_true, eqPtr, Option.isNone_some, Option.isNone_none, List.getElem?_cons_zero, List.getElem?_cons_succ, Option.isSome_none, Option.isSome_some ] using hv
    · by_cases h2 : f.kind = 2
      · have e : s.write f = s.flag (decide (f.n ≠ 0)) := by simp [WS.write, h2]
        rw [e] at hk'
        have n0 : ¬ (2 : Int) = 0 := by omega
        have n1 : ¬ (2 : Int) = 1 := by omega
        simp only [F15, Fld.v, ↓RW_seq, ↓AW_ret, ↓AW_skip, ↓AW_exit, ↓AW_block, ↓RW_cond, ↓RW_reg, ↓RW_regd, ↓RO_op, ↓RO_t, ↓RO_f, ↓RO_nt, ↓RO_nf, ↓AO_nil, ↓RD_op, ↓RD_t, ↓RD_f, ↓RD_nt, ↓RD_fe, ↓RD_nte, ↓RD_nf, ↓AOD_nil, CDops_eff, CDops_no, CDops_1, CDops_2, Again_nil, Again_cons, Same1_int, Same1_bool, Same1_str, Same1_ptr, Same1_slice, Same1_nil, CSeq_ap, CReg_ap, COps_ap, Then_normal, Then_ret, Then_exit, InBlock_normal, InBlock_ret, InBlock_self, InBlock_exit, Ends_ret, Ends_normal, ares, tup, finO_some, fin_same, fin_false, argsE, dval, aop, ev, evs, evo, evp, fillL, addrOf, intOf?, lk_put, lk_none, lk_cons, lk_nil, keep_nil, keep_cons, Op1_some, Option.map_some, Option.bind_some, reduceIte, Nat.reduceEqDiff, binV_lss, binV_leq, binV_gtr, binV_geq, binV_eql, binV_neq, binV_add, binV_sub, binV_mul, un_not, CondA_false, CondA_true, Bool.not_true, Bool.not_false, reduceCtorEq, decide_true, decide_false, Nat.add_zero, Nat.zero_add, Nat.reduceAdd, Nat.reduceMul, Bool.bne_false, Bool.bne_true, eqPtr, Option.isNone_some, Option.isNone_none, List.getElem?_cons_zero, List.getElem?_cons_succ, Option.isSome_none, Option.isSome_some , hload, hstore, List.length_cons, List.length_nil, Nat.reduceAdd, Nat.reduceLeDiff, decide_true, List.all_cons, List.all_nil, one, Bool.and_true, Bool.true_and, Bool.and_self, splice, List.set_cons_zero, List.set_cons_succ, List.getElem?_cons_zero, List.getElem?_cons_succ, vc_int, vc_slice, vc_str, vc_bool, vc_int', vc_slice', vc_str', vc_bool', List.length_set, List.length_append, Nat.lt_irrefl, Nat.lt_add_one, and_self, true_and, and_true, lenV, cellsOfSlice, Nat.le_refl, if_true , vc_agg', hget_append_self, h2, n0, n1] at hp hk' ⊢
        exact Op1_mono (flag_spec hp hlen hk') fun v H1 hv => by simpa only [↓RW_seq, ↓AW_ret, ↓AW_skip, ↓AW_exit, ↓AW_block, ↓RW_cond, ↓RW_reg, ↓RW_regd, ↓RO_op, ↓RO_t, ↓RO_f, ↓RO_nt, ↓RO_nf, ↓AO_nil, ↓RD_op, ↓RD_t, ↓RD_f, ↓RD_nt, ↓RD_fe, ↓RD_nte, ↓RD_nf, ↓AOD_nil, CDops_eff, CDops_no, CDops_1, CDops_2, Again_nil, Again_cons, Same1_int, Same1_bool, Same1_str, Same1_ptr, Same1_slice, Same1_nil, CSeq_ap, CReg_ap, COps_ap, Then_normal, Then_ret, Then_exit, InBlock_normal, InBlock_ret, InBlock_self, InBlock_exit, Ends_ret, Ends_normal, ares, tup, finO_some, fin_same, fin_false, argsE, dval, aop, ev, evs, evo, evp, fillL, addrOf, intOf?, lk_put, lk_none, lk_cons, lk_nil, keep_nil, keep_cons, Op1_some, Option.map_some, Option.bind_some, reduceIte, Nat.reduceEqDiff, binV_lss, binV_leq, binV_gtr, binV_geq, binV_eql, binV_neq, binV_add, binV_sub, binV_mul, un_not, CondA_false, CondA_true, Bool.not_true, Bool.not_false, reduceCtorEq, decide_true, decide_false, Nat.add_zero, Nat.zero_add, Nat.reduceAdd, Nat.reduceMul, Bool.bne_false, Bool.bne_true, eqPtr, Option.isNone_some, Option.isNone_none, List.getElem?_cons_zero, List.getElem?_cons_succ, Option.isSome_none, Option.isSome_some ] using hv
      · by_cases h3 : f.kind = 3
        · have e : s.write f = s.text f.width f.s := by simp [WS.write, h3]
          rw [e] at hk'
          have n0 : ¬ (3 : Int) = 0 := by omega
          have n1 : ¬ (3 : Int) = 1 := by omega
          have n2 : ¬ (3 : Int) = 2 := by omega
          simp only [F15, Fld.v, ↓RW_seq, ↓AW_ret, ↓AW_skip, ↓AW_exit, ↓AW_block, ↓RW_cond, ↓RW_reg, ↓RW_regd, ↓RO_op, ↓RO_t, ↓RO_f, ↓RO_nt, ↓RO_nf, ↓AO_nil, ↓RD_op, ↓RD_t, ↓RD_f, ↓RD_nt, ↓RD_fe, ↓RD_nte, ↓RD_nf, ↓AOD_nil, CDops_eff, CDops_no, CDops_1, CDops_2, Again_nil, Again_cons, Same1_int, Same1_bool, Same1_str, Same1_ptr, Same1_slice, Same1_nil, CSeq_ap, CReg_ap, COps_ap, Then_normal, Then_ret, Then_exit, InBlock_normal, InBlock_ret, InBlock_self, InBlock_exit, Ends_ret, Ends_normal, ares, tup, finO_some, fin_same, fin_false, argsE, dval, aop, ev, evs, evo, evp, fillL, addrOf, intOf?, lk_put, lk_none, lk_cons, lk_nil, keep_nil, keep_cons, Op1_some, Option.map_some, Option.bind_some, reduceIte, Nat.reduceEqDiff, binV_lss, binV_leq, binV_gtr, binV_geq, binV_eql, binV_neq, binV_add, binV_sub, binV_mul, un_not, CondA_false, CondA_true, Bool.not_true, Bool.not_false, reduceCtorEq, decide_true, decide_false, Nat.add_zero, Nat.zero_add, Nat.reduceAdd, Nat.reduceMul, Bool.bne_false, Bool.bne_true, eqPtr, Option.isNone_some, Option.isNone_none, List.getElem?_cons_zero, List.getElem?_cons_succ, Option.isSome_none, Option.isSome_some , hload, hstore, List.length_cons, List.length_nil, Nat.reduceAdd, Nat.reduceLeDiff, decide_true, List.all_cons, List.all_nil, one, Bool.and_true, Bool.true_and, Bool.and_self, splice, List.set_cons_zero, List.set_cons_succ, List.getElem?_cons_zero, List.getElem?_cons_succ, vc_int, vc_slice, vc_str, vc_bool, vc_int', vc_slice', vc_str', vc_bool', List.length_set, List.length_append, Nat.lt_irrefl, Nat.lt_add_one, and_self, true_and, and_true, lenV, cellsOfSlice, Nat.le_refl, if_true , vc_agg', hget_append_self, h3, n0, n1, n2] at hp hk' ⊢
          exact Op1_mono (text_spec hp hlen hf.width (by omega) hk') fun v H1 hv => by simpa only [↓RW_seq, ↓AW_ret, ↓AW_skip, ↓AW_exit, ↓AW_block, ↓RW_cond, ↓RW_reg, ↓RW_regd, ↓RO_op, ↓RO_t, ↓RO_f, ↓RO_nt, ↓RO_nf, ↓AO_nil, ↓RD_op, ↓RD_t, ↓RD_f, ↓RD_nt, ↓RD_fe, ↓RD_nte, ↓RD_nf, ↓AOD_nil, CDops_eff, CDops_no, CDops_1, CDops_2, Again_nil, Again_cons, Same1_int, Same1_bool, Same1_str, Same1_ptr, Same1_slice, Same1_nil, CSeq_ap, CReg_ap, COps_ap, Then_normal, Then_ret, Then_exit, InBlock_normal, InBlock_ret, InBlock_self, InBlock_exit, Ends_ret, Ends_normal, ares, tup, finO_some, fin_same, fin_false, argsE, dval, aop, ev, evs, evo, evp, fillL, addrOf, intOf?, lk_put, lk_none, lk_cons, lk_nil, keep_nil, keep_cons, Op1_some, Option.map_some, Option.bind_some, reduceIte, Nat.reduceEqDiff, binV_lss, binV_leq, binV_gtr, binV_geq, binV_eql, binV_neq, binV_add, binV_sub, binV_mul, un_not, CondA_false, CondA_true, Bool.not_true, Bool.not_false, reduceCtorEq, decide_true, decide_false, Nat.add_zero, Nat.zero_add, Nat.reduceAdd, Nat.reduceMul, Bool.bne_false, Bool.bne_true, eqPtr, Option.isNone_some, Option.isNone_none, List.getElem?_cons_zero, List.getElem?_cons_succ, Option.isSome_none, Option.isSome_some ] using hv
        · have e : s.write f = s := by simp [WS.write, h0, h1, h2, h3]
          rw [e] at hk'
          simp only [F15, Fld.v, ↓RW_seq, ↓AW_ret, ↓AW_skip, ↓AW_exit, ↓AW_block, ↓RW_cond, ↓RW_reg, ↓RW_regd, ↓RO_op, ↓RO_t, ↓RO_f, ↓RO_nt, ↓RO_nf, ↓AO_nil, ↓RD_op, ↓RD_t, ↓RD_f, ↓RD_nt, ↓RD_fe, ↓RD_nte, ↓RD_nf, ↓AOD_nil, CDops_eff, CDops_no, CDops_1, CDops_2, Again_nil, Again_cons, Same1_int, Same1_bool, Same1_str, Same1_ptr, Same1_slice, Same1_nil, CSeq_ap, CReg_ap, COps_ap, Then_normal, Then_ret, Then_exit, InBlock_normal, InBlock_ret, InBlock_self, InBlock_exit, Ends_ret, Ends_normal, ares, tup, finO_some, fin_same, fin_false, argsE, dval, aop, ev, evs, evo, evp, fillL, addrOf, intOf?, lk_put, lk_none, lk_cons, lk_nil, keep_nil, keep_cons, Op1_some, Option.map_some, Option.bind_some, reduceIte, Nat.reduceEqDiff, binV_lss, binV_leq, binV_gtr, binV_geq, binV_eql, binV_neq, binV_add, binV_sub, binV_mul, un_not, CondA_false, CondA_true, Bool.not_true, Bool.not_false, reduceCtorEq, decide_true, decide_false, Nat.add_zero, Nat.zero_add, Nat.reduceAdd, Nat.reduceMul, Bool.bne_false, Bool.bne_true, eqPtr, Option.isNone_some, Option.isNone_none, List.getElem?_cons_zero, List.getElem?_cons_succ, Option.isSome_none, Option.isSome_some , hload, hstore, List.length_cons, List.length_nil, Nat.reduceAdd, Nat.reduceLeDiff, decide_true, List.all_cons, List.all_nil, one, Bool.and_true, Bool.true_and, Bool.and_self, splice, List.set_cons_zero, List.set_cons_succ, List.getElem?_cons_zero, List.getElem?_cons_succ, vc_int, vc_slice, vc_str, vc_bool, vc_int', vc_slice', vc_str', vc_bool', List.length_set, List.length_append, Nat.lt_irrefl, Nat.lt_add_one, and_self, true_and, and_true, lenV, cellsOfSlice, Nat.le_refl, if_true , vc_agg', hget_append_self, h0, h1, h2, h3] at hp hk' ⊢
          exact hk' _ o hp (Frm.refl _ _) (fun q hq => .inl hq)

def RS.read (r : RS) (f : Fld) : Fld × RS :=
  if f.kind = 0 then ({ f with n := (r.unsigned f.width).1, s := ⟨#[]⟩ }, (r.unsigned f.width).2)
  else if f.kind = 1 then ({ f with n := (r.signed f.width).1, s := ⟨#[]⟩ }, (r.signed f.width).2)
  else if f.kind = 2 then (⟨f.kind, 0, if r.flag.1 then 1 else 0, ⟨#[]⟩⟩, r.flag.2)
  else if f.kind = 3 then ({ f with n := 0, s := (r.text f.width).1 }, (r.text f.width).2)
  else (f, r)

end Go.Proofs.Ytlbhbjaimcinbaa.AI

/- How the law reads a field. -/
set_option linter.unusedSimpArgs false
namespace Go.Proofs.Ytlbhbjaimcinbaa.AI
open Go

theorem take4 (a b c d : Value) : List.take 4 (List.drop 0 [a, b, c, d]) = [a, b, c, d] := rfl
theorem size4 (a b c d : Value) : (#[a, b, c, d] : Array Value).size = 4 := rfl
theorem list4 (a b c d : Value) : [a, b, c, d].toArray = #[a, b, c, d] := rfl

theorem read_spec {H : Heap} {p : Nat} {r : RS} {f : Fld} (h : RSt H p r) (ho : r.Ok) (hf : f.Ok) {K : Value → Heap → Prop}
    (hk : ∀ H', RSt H' p (r.read f).2 → Frm [p] H H' → K (r.read f).1.v H') : Op1 (AC tbl 22 [.pointer (some ⟨p, 0, none⟩), f.v] H) K := by
  apply AC_wp (F := F22) rfl (by simp [F22]) (.inl rfl)
  have hpl := h.lt
  -- the memory with the two local blocks
  generalize hG : H ++ [some ⟨true, [.int .i64 f.kind, .int .i64 f.width, .int .i64 f.n, .string f.s]⟩] ++ [some (⟨true, [.int .i64 0, .int .i64 0, .int .i64 0, .string ⟨#[]⟩]⟩ : Blk)] = G
  have hGl : G.length = H.length + 2 := by rw [← hG]; simp
  have hG3 : hget G H.length = some ⟨true, [.int .i64 f.kind, .int .i64 f.width, .int .i64 f.n, .string f.s]⟩ := by
    rw [← hG, hget_append_lt (by simp), hget_append_self]
  have hG4 : hget G (H.length + 1) = some ⟨true, [.int .i64 0, .int .i64 0, .int .i64 0, .string ⟨#[]⟩]⟩ := by
    rw [← hG, hget_app]; simp
  have hGp : RSt G p r := by
    unfold RSt; rw [← hG, hget_append_lt (by simp; omega), hget_append_lt hpl]; exact h
  have hGf : Frm [] H G := by rw [← hG]; exact ((Frm.refl _ _).push _).push _
  have ne1 : H.length ≠ H.length + 1 := by omega
  have ne2 : H.length + 1 ≠ H.length := by omega
  have np1 : H.length ≠ p := by omega
  have np2 : H.length + 1 ≠ p := by omega
  -- what is known of a memory behind the call
  have known : ∀ H', Frm [p] G H' → hget H' H.length = some ⟨true, [.int .i64 f.kind, .int .i64 f.width, .int .i64 f.n, .string f.s]⟩ ∧ hget H' (H.length + 1) = some ⟨true, [.int .i64 0, .int .i64 0, .int .i64 0, .string ⟨#[]⟩]⟩ ∧ H.length < H'.length ∧ H.length + 1 < H'.length := by
    intro H' hf'
    have := hf'.1
    exact ⟨by rw [hf'.2 _ (by omega) (by simpa using np1)]; exact hG3, by rw [hf'.2 _ (by omega) (by simpa using np2)]; exact hG4, by omega, by omega⟩
  have fin' : ∀ (H' : Heap) (a b : Option Blk) (r' : RS), RSt H' p r' → Frm [p] G H' → RSt ((H'.set H.length a).set (H.length + 1) b) p r' ∧ Frm [p] H ((H'.set H.length a).set (H.length + 1) b) := by
    intro H' a b r' h1 h2
    refine ⟨by unfold RSt; rw [hget_set_ne np2, hget_set_ne np1]; exact h1, ?_⟩
    refine (((hGf.mono (by simp)).trans h2 (fun i hi => .inl hi)).set _ (.inr (Nat.le_refl _))).set _ (.inr (by omega))
  by_cases h0 : f.kind = 0
  · have e := runsigned_spec (w := f.width) hGp ho
    have hrs := setR_st hGp.lt (r.unsigned f.width).2
    have hrf := setR_frm G p (r.unsigned f.width).2
    rw [show r.read f = ({ f with n := (r.unsigned f.width).1, s := ⟨#[]⟩ }, (r.unsigned f.width).2) by simp [RS.read, h0]] at hk
    generalize setR G p (r.unsigned f.width).2 = H' at *
    obtain ⟨q3, q4, l3, l4⟩ := known H' hrf
    rw [h0] at hG hG3 q3 hk
    simp only [F22, Fld.v, ↓RW_seq, ↓AW_ret, ↓AW_skip, ↓AW_exit, ↓AW_block, ↓RW_cond, ↓RW_reg, ↓RW_regd, ↓RO_op, ↓RO_t, ↓RO_f, ↓RO_nt, ↓RO_nf, ↓AO_nil, ↓RD_op, ↓RD_t, ↓RD_f, ↓RD_nt, ↓RD_fe, ↓RD_nte, ↓RD_nf, ↓AOD_nil, CDops_eff, CDops_no, CDops_1, CDops_2, Again_nil, Again_cons, Same1_int, Same1_bool, Same1_str, Same1_ptr, Same1_slice, Same1_nil, CSeq_ap, CReg_ap, COps_ap, Then_normal, Then_ret, Then_exit, InBlock_normal, InBlock_ret, InBlock_self, InBlock_exit, Ends_ret, Ends_normal, ares, tup, finO_some, fin_same, fin_false, argsE, dval, aop, ev, evs, evo, evp, fillL, addrOf, intOf?, lk_put, lk_none, lk_cons, lk_nil, keep_nil, keep_cons, Op1_some, Option.map_some, Option.bind_some, reduceIte, Nat.reduceEqDiff, binV_lss, binV_leq, binV_gtr, binV_geq, binV_eql, binV_neq, binV_add, binV_sub, binV_mul, un_not, CondA_false, CondA_true, Bool.not_true, Bool.not_false, reduceCtorEq, decide_true, decide_false, Nat.add_zero, Nat.zero_add, Nat.reduceAdd, Nat.reduceMul, Bool.bne_false, Bool.bne_true, eqPtr, Option.isNone_some, Option.isNone_none, List.getElem?_cons_zero, List.getElem?_cons_succ, Option.isSome_none, Option.isSome_some , hload, hstore, List.length_cons, List.length_nil, Nat.reduceAdd, Nat.reduceLeDiff, decide_true, List.all_cons, List.all_nil, one, Bool.and_true, Bool.true_and, Bool.and_self, splice, List.set_cons_zero, List.set_cons_succ, List.getElem?_cons_zero, List.getElem?_cons_succ, vc_int, vc_slice, vc_str, vc_bool, vc_int', vc_slice', vc_str', vc_bool', List.length_set, List.length_append, Nat.lt_irrefl, Nat.lt_add_one, and_self, true_and, and_true, lenV, cellsOfSlice, Nat.le_refl, if_true , vc_agg', hG, hG3, h0, e, q3, q4, hget_set_self, hget_set_ne, l3, l4, ne1, ne2, ne_eq, not_false_eq_true, List.set_set, take4, size4, list4]
    exact hk _ (fin' H' _ _ _ hrs hrf).1 (fin' H' _ _ _ hrs hrf).2
  · by_cases h1 : f.kind = 1
    · have e := rsigned_spec (w := f.width) hGp ho
      have hrs := setR_st hGp.lt (r.signed f.width).2
      have hrf := setR_frm G p (r.signed f.width).2
      rw [show r.read f = ({ f with n := (r.signed f.width).1, s := ⟨#[]⟩ }, (r.signed f.width).2) by simp [RS.read, h1]] at hk
      generalize setR G p (r.signed f.width).2 = H' at *
      obtain ⟨q3, q4, l3, l4⟩ := known H' hrf
      rw [h1] at hG hG3 q3 hk
      have n0 : ¬ (1 : Int) = 0 := by omega
      simp only [F22, Fld.v, ↓RW_seq, ↓AW_ret, ↓AW_skip, ↓AW_exit, ↓AW_block, ↓RW_cond, ↓RW_reg, ↓RW_regd, ↓RO_op, ↓RO_t, ↓RO_f, ↓RO_nt, ↓RO_nf, ↓AO_nil, ↓RD_op, ↓RD_t, ↓RD_f, ↓RD_nt, ↓RD_fe, ↓RD_nte, ↓RD_nf, ↓AOD_nil, CDops_eff, CDops_no, CDops_1, CDops_2, Again_nil, Again_cons, Same1_int, Same1_bool, Same1_str, Same1_ptr, Same1_slice, Same1_nil, CSeq_ap, CReg_ap, COps_ap, Then_normal, Then_ret, Then_exit, InBlock_normal, InBlock_ret, InBlock_self, InBlock_exit, Ends_ret, Ends_normal, ares, tup, finO_some, fin_same, fin_false, argsE, dval, aop, ev, evs, evo, evp, fillL, addrOf, intOf?, lk_put, lk_none, lk_cons, lk_nil, keep_nil, keep_cons, Op1_some, Option.map_some, Option.bind_some, reduceIte, Nat.reduceEqDiff, binV_lss, binV_leq, binV_gtr, binV_geq, binV_eql, binV_neq, binV_add, binV_sub, binV_mul, un_not, CondA_false, CondA_true, Bool.not_true, Bool.not_false, reduceCtorEq, decide_true, decide_false, Nat.add_zero, Nat.zero_add, Nat.reduceAdd, Nat.reduceMul, Bool.bne_false, Bool.bne_true, eqPtr, Option.isNone_some, Option.isNone_none, List.getElem?_cons_zero, List.getElem?_cons_succ, Option.isSome_none, Option.isSome_some , hload, hstore, List.length_cons, List.length_nil, Nat.reduceAdd, Nat.reduceLeDiff, decide_true, List.all_cons, List.all_nil, one, Bool.and_true, Bool.true_and, Bool.and_self, splice, List.set_cons_zero, List.set_cons_succ, List.getElem?_cons_zero, List.getElem?_cons_succ, vc_int, vc_slice, vc_str, vc_bool, vc_int', vc_slice', vc_str', vc_bool', List.length_set, List.length_append, Nat.lt_irrefl, Nat.lt_add_one, and_self, true_and, and_true, lenV, cellsOfSlice, Nat.le_refl, if_true , vc_agg', hG, hG3, h1, n0, e, q3, q4, hget_set_self, hget_set_ne, l3, l4, ne1, ne2, ne_eq, not_false_eq_true, List.set_set, take4, size4, list4]
      exact hk _ (fin' H' _ _ _ hrs hrf).1 (fin' H' _ _ _ hrs hrf).2
    · by_cases h2 : f.kind = 2
      · have n0 : ¬ (2 : Int) = 0 := by omega
        have n1 : ¬ (2 : Int) = 1 := by omega
        have hgl : H.length < G.length := by omega
        have hG2p : RSt (G.set H.length (some ⟨true, [.int .i64 2, .int .i64 0, .int .i64 0, .string ⟨#[]⟩]⟩)) p r := by
          unfold RSt; rw [hget_set_ne np1]; exact hGp
        have e := rflag_spec hG2p ho
        have hrs := setR_st hG2p.lt r.flag.2
        have hrf0 := setR_frm (G.set H.length (some ⟨true, [.int .i64 2, .int .i64 0, .int .i64 0, .string ⟨#[]⟩]⟩)) p r.flag.2
        rw [show r.read f = (⟨f.kind, 0, if r.flag.1 then 1 else 0, ⟨#[]⟩⟩, r.flag.2) by simp [RS.read, h2]] at hk
        generalize setR (G.set H.length (some ⟨true, [.int .i64 2, .int .i64 0, .int .i64 0, .string ⟨#[]⟩]⟩)) p r.flag.2 = H' at *
        have q3 : hget H' H.length = some ⟨true, [.int .i64 2, .int .i64 0, .int .i64 0, .string ⟨#[]⟩]⟩ := by
          rw [hrf0.2 _ (by simp; omega) (by simpa using np1), hget_set_self hgl]
        have q4 : hget H' (H.length + 1) = some ⟨true, [.int .i64 0, .int .i64 0, .int .i64 0, .string ⟨#[]⟩]⟩ := by
          rw [hrf0.2 _ (by simp; omega) (by simpa using np2), hget_set_ne ne1]; exact hG4
        have l3 : H.length < H'.length := by have := hrf0.1; simp at this; omega
        have l4 : H.length + 1 < H'.length := by have := hrf0.1; simp at this; omega
        have fin2 : ∀ (a b : Option Blk), RSt ((H'.set H.length a).set (H.length + 1) b) p r.flag.2 ∧ Frm [p] H ((H'.set H.length a).set (H.length + 1) b) := by
          intro a b
          refine ⟨by unfold RSt; rw [hget_set_ne np2, hget_set_ne np1]; exact hrs, ?_⟩
          refine (((Frm.set (hGf.mono (by simp)) _ (.inr (Nat.le_refl _))).trans hrf0 (fun i hi => .inl hi)).set _ (.inr (Nat.le_refl _))).set _ (.inr (by omega))
        have fin3 : ∀ (b : Option Blk), RSt (H'.set (H.length + 1) b) p r.flag.2 ∧ Frm [p] H (H'.set (H.length + 1) b) := by
          intro b
          refine ⟨by unfold RSt; rw [hget_set_ne np2]; exact hrs, ?_⟩
          refine ((Frm.set (hGf.mono (by simp)) _ (.inr (Nat.le_refl _))).trans hrf0 (fun i hi => .inl hi)).set _ (.inr (by omega))
        rw [h2] at hG hG3 hk
        cases hb : r.flag.1 with
        | true =>
          rw [hb] at hk e
          simp only [F22, Fld.v, ↓RW_seq, ↓AW_ret, ↓AW_skip, ↓AW_exit, ↓AW_block, ↓RW_cond, ↓RW_reg, ↓RW_regd, ↓RO_op, ↓RO_t, ↓RO_f, ↓RO_nt, ↓RO_nf, ↓AO_nil, ↓RD_op, ↓RD_t, ↓RD_f, ↓RD_nt, ↓RD_fe, ↓RD_nte, ↓RD_nf, ↓AOD_nil, CDops_eff, CDops_no, CDops_1, CDops_2, Again_nil, Again_cons, Same1_int, Same1_bool, Same1_str, Same1_ptr, Same1_slice, Same1_nil, CSeq_ap, CReg_ap, COps_ap, Then_normal, Then_ret, Then_exit, InBlock_normal, InBlock_ret, InBlock_self, InBlock_exit, Ends_ret, Ends_normal, ares, tup, finO_some, fin_same, fin_false, argsE, dval, aop, ev, evs, evo, evp, fillL, addrOf, intOf?, lk_put, lk_none, lk_cons, lk_nil, keep_nil, keep_cons, Op1_some, Option.map_some, Option.bind_some, reduceIte, Nat.reduceEqDiff, binV_lss, binV_leq, binV_gtr, binV_geq, binV_eql, binV_neq, binV_add, binV_sub, binV_mul, un_not, CondA_false, CondA_true, Bool.not_true, Bool.not_false, reduceCtorEq, decide_true, decide_false, Nat.add_zero, Nat.zero_add, Nat.reduceAdd, Nat.reduceMul, Bool.bne_false, Bool.bne_true, eqPtr, Option.isNone_some, Option.isNone_none, List.getElem?_cons_zero, List.getElem?_cons_succ, Option.isSome_none, Option.isSome_some , hload, hstore, List.length_cons, List.length_nil, Nat.reduceAdd, Nat.reduceLeDiff, decide_true, List.all_cons, List.all_nil, one, Bool.and_true, Bool.true_and, Bool.and_self, splice, List.set_cons_zero, List.set_cons_succ, List.getElem?_cons_zero, List.getElem?_cons_succ, vc_int, vc_slice, vc_str, vc_bool, vc_int', vc_slice', vc_str', vc_bool', List.length_set, List.length_append, Nat.lt_irrefl, Nat.lt_add_one, and_self, true_and, and_true, lenV, cellsOfSlice, Nat.le_refl, if_true , vc_agg', hG, hG3, h2, n0, n1, e, q3, q4, hget_set_self, hget_set_ne, l3, l4, hgl, ne1, ne2, ne_eq, not_false_eq_true, List.set_set, take4, size4, list4]
          exact hk _ (fin2 _ _).1 (fin2 _ _).2
        | false =>
          rw [hb] at hk e
          simp only [F22, Fld.v, ↓RW_seq, ↓AW_ret, ↓AW_skip, ↓AW_exit, ↓AW_block, ↓RW_cond, ↓RW_reg, ↓RW_regd, ↓RO_op, ↓RO_t, ↓RO_f, ↓RO_nt, ↓RO_nf, ↓AO_nil, ↓RD_op, ↓RD_t, ↓RD_f, ↓RD_nt, ↓RD_fe, ↓RD_nte, ↓RD_nf, ↓AOD_nil, CDops_eff, CDops_no, CDops_1, CDops_2, Again_nil, Again_cons, Same1_int, Same1_bool, Same1_str, Same1_ptr, Same1_slice, Same1_nil, CSeq_ap, CReg_ap, COps_ap, Then_normal, Then_ret, Then_exit, InBlock_normal, InBlock_ret, InBlock_self, InBlock_exit, Ends_ret, Ends_normal, ares, tup, finO_some, fin_same, fin_false, argsE, dval, aop, ev, evs, evo, evp, fillL, addrOf, intOf?, lk_put, lk_none, lk_cons, lk_nil, keep_nil, keep_cons, Op1_some, Option.map_some, Option.bind_some, reduceIte, Nat.reduceEqDiff, binV_lss, binV_leq, binV_gtr, binV_geq, binV_eql, binV_neq, binV_add, binV_sub, binV_mul, un_not, CondA_false, CondA_true, Bool.not_true, Bool.not_false, reduceCtorEq, decide_true, decide_false, Nat.add_zero, Nat.zero_add, Nat.reduceAdd, Nat.reduceMul, Bool.bne_false, Bool.bne_true, eqPtr, Option.isNone_some, Option.isNone_none, List.getElem?_cons_zero, List.getElem?_cons_succ, Option.isSome_none, Option.isSome_some , hload, hstore, List.length_cons, List.length_nil, Nat.reduceAdd, Nat.reduceLeDiff, decide_true, List.all_cons, List.all_nil, one, Bool.and_true, Bool.true_and, Bool.and_self, splice, List.set_cons_zero, List.set_cons_succ, List.getElem?_cons_zero, List.getElem?_cons_succ, vc_int, vc_slice, vc_str, vc_bool, vc_int', vc_slice', vc_str', vc_bool', List.length_set, List.length_append, Nat.lt_irrefl, Nat.lt_add_one, and_self, true_and, and_true, lenV, cellsOfSlice, Nat.le_refl, if_true , vc_agg', hG, hG3, h2, n0, n1, e, q3, q4, hget_set_self, hget_set_ne, l3, l4, hgl, ne1, ne2, ne_eq, not_false_eq_true, List.set_set, take4, size4, list4]
          exact hk _ (fin3 _).1 (fin3 _).2
      · by_cases h3 : f.kind = 3
        · have n0 : ¬ (3 : Int) = 0 := by omega
          have n1 : ¬ (3 : Int) = 1 := by omega
          have n2 : ¬ (3 : Int) = 2 := by omega
          rw [show r.read f = ({ f with n := 0, s := (r.text f.width).1 }, (r.text f.width).2) by simp [RS.read, h3]] at hk
          have known3 := known
          rw [h3] at hG hG3 hk
          simp only [F22, Fld.v, ↓RW_seq, ↓AW_ret, ↓AW_skip, ↓AW_exit, ↓AW_block, ↓RW_cond, ↓RW_reg, ↓RW_regd, ↓RO_op, ↓RO_t, ↓RO_f, ↓RO_nt, ↓RO_nf, ↓AO_nil, ↓RD_op, ↓RD_t, ↓RD_f, ↓RD_nt, ↓RD_fe, ↓RD_nte, ↓RD_nf, ↓AOD_nil, CDops_eff, CDops_no, CDops_1, CDops_2, Again_nil, Again_cons, Same1_int, Same1_bool, Same1_str, Same1_ptr, Same1_slice, Same1_nil, CSeq_ap, CReg_ap, COps_ap, Then_normal, Then_ret, Then_exit, InBlock_normal, InBlock_ret, InBlock_self, InBlock_exit, Ends_ret, Ends_normal, ares, tup, finO_some, fin_same, fin_false, argsE, dval, aop, ev, evs, evo, evp, fillL, addrOf, intOf?, lk_put, lk_none, lk_cons, lk_nil, keep_nil, keep_cons, Op1_some, Option.map_some, Option.bind_some, reduceIte, Nat.reduceEqDiff, binV_lss, binV_leq, binV_gtr, binV_geq, binV_eql, binV_neq, binV_add, binV_sub, binV_mul, un_not, CondA_false, CondA_true, Bool.not_true, Bool.not_false, reduceCtorEq, decide_true, decide_false, Nat.add_zero, Nat.zero_add, Nat.reduceAdd, Nat.reduceMul, Bool.bne_false, Bool.bne_true, eqPtr, Option.isNone_some, Option.isNone_none, List.getElem?_cons_zero, List.getElem?_cons_succ, Option.isSome_none, Option.isSome_some , hload, hstore, List.length_cons, List.length_nil, Nat.reduceAdd, Nat.reduceLeDiff, decide_true, List.all_cons, List.all_nil, one, Bool.and_true, Bool.true_and, Bool.and_self, splice, List.set_cons_zero, List.set_cons_succ, List.getElem?_cons_zero, List.getElem?_cons_succ, vc_int, vc_slice, vc_str, vc_bool, vc_int', vc_slice', vc_str', vc_bool', List.length_set, List.length_append, Nat.lt_irrefl, Nat.lt_add_one, and_self, true_and, and_true, lenV, cellsOfSlice, Nat.le_refl, if_true , vc_agg', hG, hG3, h3, n0, n1, n2]
          refine rtext_spec hGp ho hf.width fun H' hrs hrf => ?_
          obtain ⟨q3, q4, l3, l4⟩ := known3 H' hrf
          rw [h3] at q3
          simp only [↓RW_seq, ↓AW_ret, ↓AW_skip, ↓AW_exit, ↓AW_block, ↓RW_cond, ↓RW_reg, ↓RW_regd, ↓RO_op, ↓RO_t, ↓RO_f, ↓RO_nt, ↓RO_nf, ↓AO_nil, ↓RD_op, ↓RD_t, ↓RD_f, ↓RD_nt, ↓RD_fe, ↓RD_nte, ↓RD_nf, ↓AOD_nil, CDops_eff, CDops_no, CDops_1, CDops_2, Again_nil, Again_cons, Same1_int, Same1_bool, Same1_str, Same1_ptr, Same1_slice, Same1_nil, CSeq_ap, CReg_ap, COps_ap, Then_normal, Then_ret, Then_exit, InBlock_normal, InBlock_ret, InBlock_self, InBlock_exit, Ends_ret, Ends_normal, ares, tup, finO_some, fin_same, fin_false, argsE, dval, aop, ev, evs, evo, evp, fillL, addrOf, intOf?, lk_put, lk_none, lk_cons, lk_nil, keep_nil, keep_cons, Op1_some, Option.map_some, Option.bind_some, reduceIte, Nat.reduceEqDiff, binV_lss, binV_leq, binV_gtr, binV_geq, binV_eql, binV_neq, binV_add, binV_sub, binV_mul, un_not, CondA_false, CondA_true, Bool.not_true, Bool.not_false, reduceCtorEq, decide_true, decide_false, Nat.add_zero, Nat.zero_add, Nat.reduceAdd, Nat.reduceMul, Bool.bne_false, Bool.bne_true, eqPtr, Option.isNone_some, Option.isNone_none, List.getElem?_cons_zero, List.getElem?_cons_succ, Option.isSome_none, Option.isSome_some , hload, hstore, List.length_cons, List.length_nil, Nat.reduceAdd, Nat.reduceLeDiff, decide_true, List.all_cons, List.all_nil, one, Bool.and_true, Bool.true_and, Bool.and_self, splice, List.set_cons_zero, List.set_cons_succ, List.getElem?_cons_zero, List.getElem?_cons_succ, vc_int, vc_slice, vc_str, vc_bool, vc_int', vc_slice', vc_str', vc_bool', List.length_set, List.length_append, Nat.lt_irrefl, Nat.lt_add_one, and_self, true_and, and_true, lenV, cellsOfSlice, Nat.le_refl, if_true , vc_agg', q3, q4, hget_set_self, hget_set_ne, l3, l4, ne1, ne2, ne_eq, not_false_eq_true, List.set_set, take4, size4, list4]
          exact hk _ (fin' H' _ _ _ hrs hrf).1 (fin' H' _ _ _ hrs hrf).2
        · rw [show r.read f = (f, r) by simp [RS.read, h0, h1, h2, h3]] at hk
          have hgl1 : H.length + 1 < G.length := by omega
          simp only [F22, Fld.v, ↓RW_seq, ↓AW_ret, ↓AW_skip, ↓AW_exit, ↓AW_block, ↓RW_cond, ↓RW_reg, ↓RW_regd, ↓RO_op, ↓RO_t, ↓RO_f, ↓RO_nt, ↓RO_nf, ↓AO_nil, ↓RD_op, ↓RD_t, ↓RD_f, ↓RD_nt, ↓RD_fe, ↓RD_nte, ↓RD_nf, ↓AOD_nil, CDops_eff, CDops_no, CDops_1, CDops_2, Again_nil, Again_cons, Same1_int, Same1_bool, Same1_str, Same1_ptr, Same1_slice, Same1_nil, CSeq_ap, CReg_ap, COps_ap, Then_normal, Then_ret, Then_exit, InBlock_normal, InBlock_ret, InBlock_self, InBlock_exit, Ends_ret, Ends_normal, ares, tup, finO_some, fin_same, fin_false, argsE, dval, aop, ev, evs, evo, evp, fillL, addrOf, intOf?, lk_put, lk_none, lk_cons, lk_nil, keep_nil, keep_cons, Op1_some, Option.map_some, Option.bind_some, reduceIte, Nat.reduceEqDiff, binV_lss, binV_leq, binV_gtr, binV_geq, binV_eql, binV_neq, binV_add, binV_sub, binV_mul, un_not, CondA_false, CondA_true, Bool.not_true, Bool.not_false, reduceCtorEq, decide_true, decide_false, Nat.add_zero, Nat.zero_add, Nat.reduceAdd, Nat.reduceMul, Bool.bne_false, Bool.bne_true, eqPtr, Option.isNone_some, Option.isNone_none, List.getElem?_cons_zero, List.getElem?_cons_succ, Option.isSome_none, Option.isSome_some , hload, hstore, List.length_cons, List.length_nil, Nat.reduceAdd, Nat.reduceLeDiff, decide_true, List.all_cons, List.all_nil, one, Bool.and_true, Bool.true_and, Bool.and_self, splice, List.set_cons_zero, List.set_cons_succ, List.getElem?_cons_zero, List.getElem?_cons_succ, vc_int, vc_slice, vc_str, vc_bool, vc_int', vc_slice', vc_str', vc_bool', List.length_set, List.length_append, Nat.lt_irrefl, Nat.lt_add_one, and_self, true_and, and_true, lenV, cellsOfSlice, Nat.le_refl, if_true , vc_agg', hG, hG3, hG4, h0, h1, h2, h3, hget_set_self, hgl1, take4, size4, list4]
          refine hk _ (by unfold RSt; rw [hget_set_ne np2]; exact hGp) ((hGf.mono (by simp)).set _ (.inr (by omega)))

end Go.Proofs.Ytlbhbjaimcinbaa.AI

/- Lists of fields, and whether they are few and short. -/
set_option linter.unusedSimpArgs false
namespace Go.Proofs.Ytlbhbjaimcinbaa.AI
open Go

def flat (l : List Fld) : List Value := (l.map Fld.cells).flatten
theorem flat_length (l : List Fld) : (flat l).length = 4 * l.length := by
  induction l with
  | nil => rfl
  | cons f l ih => simp only [flat, List.map_cons, List.flatten_cons, List.length_append, List.length_cons] at ih ⊢; rw [ih]; simp [Fld.cells]; omega
theorem flat_get : ∀ (l : List Fld) (i : Nat) (f : Fld), l[i]? = some f → List.take 4 (List.drop (i * 4) (flat l)) = f.cells := by
  intro l
  induction l with
  | nil => intro i f h; simp at h
  | cons g l ih =>
    intro i f h
    cases i with
    | zero => simp at h; subst h; simp [flat, Fld.cells]
    | succ i =>
      have := ih i f (by simpa using h)
      rw [← this]
      rw [show (i + 1) * 4 = i * 4 + 4 by omega]
      rfl

/-- A list of fields, as an argument. -/
def LA (H : Heap) (v : Value) (l : List Fld) : Prop := (v = .slice none 0 0 ∧ l = []) ∨ ∃ b, v = .slice (some ⟨b, 0, none⟩) l.length 4 ∧ (l = [] ∨ hget H b = some ⟨false, flat l⟩)
/-- The list stays where its block is not written. -/
def LAout (v : Value) (O : List Nat) : Prop := ∀ b n z, v = .slice (some ⟨b, 0, none⟩) n z → b ∉ O

def fewB (l : List Fld) : Bool := decide (l.length ≤ 40) && l.all fun f => decide (f.s.size ≤ 200)

theorem few_spec {H : Heap} {v : Value} {l : List Fld} (h : LA H v l) {K : Value → Heap → Prop} (hk : ∀ H', Frm [] H H' → K (.bool (fewB l)) H') : Op1 (AC tbl 12 [v] H) K := by
  apply AC_wp (F := F12) rfl (by simp [F12]) (.inl rfl)
  have main : ∀ (b : Option Addr) (z : Nat), v = .slice b l.length z → (∀ (i : Nat) (f : Fld), l[i]? = some f → ∃ q, b = some ⟨q, 0, none⟩ ∧ z = 4 ∧ hget H q = some ⟨false, flat l⟩) → AW tbl F12.body (argsE 0 [v]) H (Ends F12.results F12.trunc H.length K) := by
    rintro b z rfl hb
    by_cases h40 : (40 : Int) < (l.length : Int)
    · have : fewB l = false := by have : ¬ l.length ≤ 40 := by omega
                                  simp [fewB, this]
      rw [this] at hk
      simp only [F12, ↓RW_seq, ↓AW_ret, ↓AW_skip, ↓AW_exit, ↓AW_block, ↓RW_cond, ↓RW_reg, ↓RW_regd, ↓RO_op, ↓RO_t, ↓RO_f, ↓RO_nt, ↓RO_nf, ↓AO_nil, ↓RD_op, ↓RD_t, ↓RD_f, ↓RD_nt, ↓RD_fe, ↓RD_nte, ↓RD_nf, ↓AOD_nil, CDops_eff, CDops_no, CDops_1, CDops_2, Again_nil, Again_cons, Same1_int, Same1_bool, Same1_str, Same1_ptr, Same1_slice, Same1_nil, CSeq_ap, CReg_ap, COps_ap, Then_normal, Then_ret, Then_exit, InBlock_normal, InBlock_ret, InBlock_self, InBlock_exit, Ends_ret, Ends_normal, ares, tup, finO_some, fin_same, fin_false, argsE, dval, aop, ev, evs, evo, evp, fillL, addrOf, intOf?, lk_put, lk_none, lk_cons, lk_nil, keep_nil, keep_cons, Op1_some, Option.map_some, Option.bind_some, reduceIte, Nat.reduceEqDiff, binV_lss, binV_leq, binV_gtr, binV_geq, binV_eql, binV_neq, binV_add, binV_sub, binV_mul, un_not, CondA_false, CondA_true, Bool.not_true, Bool.not_false, reduceCtorEq, decide_true, decide_false, Nat.add_zero, Nat.zero_add, Nat.reduceAdd, Nat.reduceMul, Bool.bne_false, Bool.bne_true, eqPtr, Option.isNone_some, Option.isNone_none, List.getElem?_cons_zero, List.getElem?_cons_succ, Option.isSome_none, Option.isSome_some , hload, hstore, List.length_cons, List.length_nil, Nat.reduceAdd, Nat.reduceLeDiff, decide_true, List.all_cons, List.all_nil, one, Bool.and_true, Bool.true_and, Bool.and_self, splice, List.set_cons_zero, List.set_cons_succ, List.getElem?_cons_zero, List.getElem?_cons_succ, vc_int, vc_slice, vc_str, vc_bool, vc_int', vc_slice', vc_str', vc_bool', List.length_set, List.length_append, Nat.lt_irrefl, Nat.lt_add_one, and_self, true_and, and_true, lenV, cellsOfSlice, Nat.le_refl, if_true , h40]
      exact hk _ (Frm.refl _ _)
    · simp only [F12, ↓RW_seq, ↓AW_ret, ↓AW_skip, ↓AW_exit, ↓AW_block, ↓RW_cond, ↓RW_reg, ↓RW_regd, ↓RO_op, ↓RO_t, ↓RO_f, ↓RO_nt, ↓RO_nf, ↓AO_nil, ↓RD_op, ↓RD_t, ↓RD_f, ↓RD_nt, ↓RD_fe, ↓RD_nte, ↓RD_nf, ↓AOD_nil, CDops_eff, CDops_no, CDops_1, CDops_2, Again_nil, Again_cons, Same1_int, Same1_bool, Same1_str, Same1_ptr, Same1_slice, Same1_nil, CSeq_ap, CReg_ap, COps_ap, Then_normal, Then_ret, Then_exit, InBlock_normal, InBlock_ret, InBlock_self, InBlock_exit, Ends_ret, Ends_normal, ares, tup, finO_some, fin_same, fin_false, argsE, dval, aop, ev, evs, evo, evp, fillL, addrOf, intOf?, lk_put, lk_none, lk_cons, lk_nil, keep_nil, keep_cons, Op1_some, Option.map_some, Option.bind_some, reduceIte, Nat.reduceEqDiff, binV_lss, binV_leq, binV_gtr, binV_geq, binV_eql, binV_neq, binV_add, binV_sub, binV_mul, un_not, CondA_false, CondA_true, Bool.not_true, Bool.not_false, reduceCtorEq, decide_true, decide_false, Nat.add_zero, Nat.zero_add, Nat.reduceAdd, Nat.reduceMul, Bool.bne_false, Bool.bne_true, eqPtr, Option.isNone_some, Option.isNone_none, List.getElem?_cons_zero, List.getElem?_cons_succ, Option.isSome_none, Option.isSome_some , hload, hstore, List.length_cons, List.length_nil, Nat.reduceAdd, Nat.reduceLeDiff, decide_true, List.all_cons, List.all_nil, one, Bool.and_true, Bool.true_and, Bool.and_self, splice, List.set_cons_zero, List.set_cons_succ, List.getElem?_cons_zero, List.getElem?_cons_succ, vc_int, vc_slice, vc_str, vc_bool, vc_int', vc_slice', vc_str', vc_bool', List.length_set, List.length_append, Nat.lt_irrefl, Nat.lt_add_one, and_self, true_and, and_true, lenV, cellsOfSlice, Nat.le_refl, if_true , h40]
      apply AW_loop_inv (fun j e H1 => j ≤ l.length ∧ e = [(8, .slice b l.length z), (9, .int .i64 (l.length : Int)), (10, .int .i64 ((l.length - j : Nat) : Int))] ∧ Frm [] H H1 ∧ ∀ f ∈ l.take (l.length - j), f.s.size ≤ 200) _ l.length
      · exact ⟨Nat.le_refl _, by rw [Nat.sub_self]; rfl, Frm.refl _ _, by simp⟩
      · rintro j e H1 ⟨hj, rfl, hf, hall⟩
        cases j with
        | zero =>
          have g0 : ¬ (l.length : Int) < (l.length : Int) := by omega
          simp only [↓RW_seq, ↓AW_ret, ↓AW_skip, ↓AW_exit, ↓AW_block, ↓RW_cond, ↓RW_reg, ↓RW_regd, ↓RO_op, ↓RO_t, ↓RO_f, ↓RO_nt, ↓RO_nf, ↓AO_nil, ↓RD_op, ↓RD_t, ↓RD_f, ↓RD_nt, ↓RD_fe, ↓RD_nte, ↓RD_nf, ↓AOD_nil, CDops_eff, CDops_no, CDops_1, CDops_2, Again_nil, Again_cons, Same1_int, Same1_bool, Same1_str, Same1_ptr, Same1_slice, Same1_nil, CSeq_ap, CReg_ap, COps_ap, Then_normal, Then_ret, Then_exit, InBlock_normal, InBlock_ret, InBlock_self, InBlock_exit, Ends_ret, Ends_normal, ares, tup, finO_some, fin_same, fin_false, argsE, dval, aop, ev, evs, evo, evp, fillL, addrOf, intOf?, lk_put, lk_none, lk_cons, lk_nil, keep_nil, keep_cons, Op1_some, Option.map_some, Option.bind_some, reduceIte, Nat.reduceEqDiff, binV_lss, binV_leq, binV_gtr, binV_geq, binV_eql, binV_neq, binV_add, binV_sub, binV_mul, un_not, CondA_false, CondA_true, Bool.not_true, Bool.not_false, reduceCtorEq, decide_true, decide_false, Nat.add_zero, Nat.zero_add, Nat.reduceAdd, Nat.reduceMul, Bool.bne_false, Bool.bne_true, eqPtr, Option.isNone_some, Option.isNone_none, List.getElem?_cons_zero, List.getElem?_cons_succ, Option.isSome_none, Option.isSome_some , g0, Nat.sub_zero]
          have : fewB l = true := by
            simp only [fewB, Bool.and_eq_true, decide_eq_true_eq, List.all_eq_true]
            rw [Nat.sub_zero, List.take_length] at hall
            exact ⟨by omega, fun f hf => by simpa using hall f hf⟩
          rw [this] at hk
          exact hk _ hf
        | succ j =>
          have hi : l.length - (j + 1) < l.length := by omega
          obtain ⟨f, hfi⟩ : ∃ f, l[l.length - (j + 1)]? = some f := ⟨_, List.getElem?_eq_getElem hi⟩
          obtain ⟨q, rfl, rfl, hq⟩ := hb _ f hfi
          have hq1 : hget H1 q = some ⟨false, flat l⟩ := by rw [hf.2 q (hget_lt hq) (by simp)]; exact hq
          have g0 : ((l.length - (j + 1) : Nat) : Int) < (l.length : Int) := by omega
          have g1 : (0 : Int) ≤ ((l.length - (j + 1) : Nat) : Int) ∧ ((l.length - (j + 1) : Nat) : Int) < (l.length : Int) := by omega
          have g2 : (l.length - (j + 1)) * 4 + 4 ≤ (flat l).length := by rw [flat_length]; omega
          have g3 := flat_get l _ f hfi
          have g4 : IntKind.i64.wrap (((l.length - (j + 1) : Nat) : Int) + 1) = ((l.length - j : Nat) : Int) := by rw [wrap_i64 (by omega) (by omega)]; omega
          have g5 : f.cells.toArray = #[.int .i64 f.kind, .int .i64 f.width, .int .i64 f.n, .string f.s] := rfl
          by_cases h200 : (200 : Int) < (f.s.size : Int)
          · have : fewB l = false := by
              simp only [fewB, Bool.and_eq_false_iff, List.all_eq_false]
              exact .inr ⟨f, List.mem_of_getElem? hfi, by simp; omega⟩
            rw [this] at hk
            simp only [↓RW_seq, ↓AW_ret, ↓AW_skip, ↓AW_exit, ↓AW_block, ↓RW_cond, ↓RW_reg, ↓RW_regd, ↓RO_op, ↓RO_t, ↓RO_f, ↓RO_nt, ↓RO_nf, ↓AO_nil, ↓RD_op, ↓RD_t, ↓RD_f, ↓RD_nt, ↓RD_fe, ↓RD_nte, ↓RD_nf, ↓AOD_nil, CDops_eff, CDops_no, CDops_1, CDops_2, Again_nil, Again_cons, Same1_int, Same1_bool, Same1_str, Same1_ptr, Same1_slice, Same1_nil, CSeq_ap, CReg_ap, COps_ap, Then_normal, Then_ret, Then_exit, InBlock_normal, InBlock_ret, InBlock_self, InBlock_exit, Ends_ret, Ends_normal, ares, tup, finO_some, fin_same, fin_false, argsE, dval, aop, ev, evs, evo, evp, fillL, addrOf, intOf?, lk_put, lk_none, lk_cons, lk_nil, keep_nil, keep_cons, Op1_some, Option.map_some, Option.bind_some, reduceIte, Nat.reduceEqDiff, binV_lss, binV_leq, binV_gtr, binV_geq, binV_eql, binV_neq, binV_add, binV_sub, binV_mul, un_not, CondA_false, CondA_true, Bool.not_true, Bool.not_false, reduceCtorEq, decide_true, decide_false, Nat.add_zero, Nat.zero_add, Nat.reduceAdd, Nat.reduceMul, Bool.bne_false, Bool.bne_true, eqPtr, Option.isNone_some, Option.isNone_none, List.getElem?_cons_zero, List.getElem?_cons_succ, Option.isSome_none, Option.isSome_some , hload, hstore, List.length_cons, List.length_nil, Nat.reduceAdd, Nat.reduceLeDiff, decide_true, List.all_cons, List.all_nil, one, Bool.and_true, Bool.true_and, Bool.and_self, splice, List.set_cons_zero, List.set_cons_succ, List.getElem?_cons_zero, List.getElem?_cons_succ, vc_int, vc_slice, vc_str, vc_bool, vc_int', vc_slice', vc_str', vc_bool', List.length_set, List.length_append, Nat.lt_irrefl, Nat.lt_add_one, and_self, true_and, and_true, lenV, cellsOfSlice, Nat.le_refl, if_true , g0, g1, Int.toNat_natCast, hq1, g2, g3, g5, vc_agg', size4, hget_append_self, set_last, h200]
            exact hk _ (hf.push _)
          · simp only [↓RW_seq, ↓AW_ret, ↓AW_skip, ↓AW_exit, ↓AW_block, ↓RW_cond, ↓RW_reg, ↓RW_regd, ↓RO_op, ↓RO_t, ↓RO_f, ↓RO_nt, ↓RO_nf, ↓AO_nil, ↓RD_op, ↓RD_t, ↓RD_f, ↓RD_nt, ↓RD_fe, ↓RD_nte, ↓RD_nf, ↓AOD_nil, CDops_eff, CDops_no, CDops_1, CDops_2, Again_nil, Again_cons, Same1_int, Same1_bool, Same1_str, Same1_ptr, Same1_slice, Same1_nil, CSeq_ap, CReg_ap, COps_ap, Then_normal, Then_ret, Then_exit, InBlock_normal, InBlock_ret, InBlock_self, InBlock_exit, Ends_ret, Ends_normal, ares, tup, finO_some, fin_same, fin_false, argsE, dval, aop, ev, evs, evo, evp, fillL, addrOf, intOf?, lk_put, lk_none, lk_cons, lk_nil, keep_nil, keep_cons, Op1_some, Option.map_some, Option.bind_some, reduceIte, Nat.reduceEqDiff, binV_lss, binV_leq, binV_gtr, binV_geq, binV_eql, binV_neq, binV_add, binV_sub, binV_mul, un_not, CondA_false, CondA_true, Bool.not_true, Bool.not_false, reduceCtorEq, decide_true, decide_false, Nat.add_zero, Nat.zero_add, Nat.reduceAdd, Nat.reduceMul, Bool.bne_false, Bool.bne_true, eqPtr, Option.isNone_some, Option.isNone_none, List.getElem?_cons_zero, List.getElem?_cons_succ, Option.isSome_none, Option.isSome_some , hload, hstore, List.length_cons, List.length_nil, Nat.reduceAdd, Nat.reduceLeDiff, decide_true, List.all_cons, List.all_nil, one, Bool.and_true, Bool.true_and, Bool.and_self, splice, List.set_cons_zero, List.set_cons_succ, List.getElem?_cons_zero, List.getElem?_cons_succ, vc_int, vc_slice, vc_str, vc_bool, vc_int', vc_slice', vc_str', vc_bool', List.length_set, List.length_append, Nat.lt_irrefl, Nat.lt_add_one, and_self, true_and, and_true, lenV, cellsOfSlice, Nat.le_refl, if_true , g0, g1, Int.toNat_natCast, hq1, g2, g3, g5, vc_agg', size4, hget_append_self, set_last, h200, g4]
            refine ⟨j, by omega, by omega, rfl, hf.push _, fun x hx => ?_⟩
            rw [show l.length - j = l.length - (j + 1) + 1 by omega, List.take_add_one, hfi] at hx
            rcases List.mem_append.1 hx with hx | hx
            · exact hall x hx
            · simp at hx; subst hx; omega
  rcases h with ⟨rfl, rfl⟩ | ⟨b, rfl, hb⟩
  · exact main none 0 rfl (fun i f hi => by simp at hi)
  · refine main _ _ rfl fun i f hi => ⟨b, rfl, rfl, ?_⟩
    rcases hb with rfl | hb
    · simp at hi
    · exact hb

end Go.Proofs.Ytlbhbjaimcinbaa.AI

/- The chapter's example is answered with true. -/
namespace Go.Proofs.Ytlbhbjaimcinbaa.AI
open Go

theorem awake_ac : ac tbl 200 11 [] [] = some (.bool true, []) := by kernel_rfl
theorem awake0 : AC tbl 11 [] [] = some (.bool true, []) := ac_AC tbl 200 _ _ _ _ awake_ac
theorem awake_any (H : Heap) : AC tbl 11 [] H = some (.bool true, H) := AC_iso (F := F11) rfl (by decide) rfl rfl rfl awake0 H

end Go.Proofs.Ytlbhbjaimcinbaa.AI

/- What the laws over lists of fields share. -/
set_option linter.unusedSimpArgs false
namespace Go.Proofs.Ytlbhbjaimcinbaa.AI
open Go

section
variable {tbl : Nat → Option AFn} {e : Env} {H : Heap} {R : Env → Heap → Prop}
theorem RO_u {d : Option Nat} {t : Nat} {b : Bool} {op : AOp} {r : List AOper} (h : lk e t = some undef) : AO tbl (⟨d, some (t, b), op⟩ :: r) e H R = AO tbl r (putE e d undef) H R := by
  unfold AO
  simp only [aops, step, want, h, undef, Option.bind_some]
theorem RD_u {d : Option Nat} {t : Nat} {b : Bool} {op : AOp} {back : Nat} {r : List DOper} {hist : List Heap} (h : lk e t = some undef) : AOD tbl (⟨⟨d, some (t, b), op⟩, false, back⟩ :: r) hist e H R = AOD tbl r hist (putE e d undef) H R := by
  unfold AOD
  simp only [aopsD, step, want, h, undef, Option.bind_some, okBack]
  simp
end

theorem binV_sne (s : ByteArray) : binV .neq (.string s) (.string s) = some (.bool false) := by
  simp only [binV, Op.stringOp]; simp [bne]; rfl

/-- A list's block stays below N. -/
def LB (H : Heap) (b : Option Addr) (z : Nat) (l : List Fld) (N : Nat) : Prop := ∀ (i : Nat) (f : Fld), l[i]? = some f → ∃ q, b = some ⟨q, 0, none⟩ ∧ z = 4 ∧ q < N ∧ hget H q = some ⟨false, flat l⟩
theorem LB.frame {H H' : Heap} {b : Option Addr} {z : Nat} {l : List Fld} {N : Nat} (h : LB H b z l N) {O : List Nat} (f : Frm O H H') (hO : ∀ i ∈ O, N ≤ i) : LB H' b z l N := by
  intro i x hx
  obtain ⟨q, h1, h2, h3, h4⟩ := h i x hx
  refine ⟨q, h1, h2, h3, ?_⟩
  rw [f.2 q (hget_lt h4) (fun hm => by have := hO q hm; omega)]; exact h4
theorem LA.lb {H : Heap} {v : Value} {l : List Fld} (h : LA H v l) : ∃ b z, v = .slice b l.length z ∧ LB H b z l H.length := by
  rcases h with ⟨rfl, rfl⟩ | ⟨b, rfl, hb⟩
  · exact ⟨none, 0, rfl, fun i f hi => by simp at hi⟩
  · refine ⟨_, _, rfl, fun i f hi => ⟨b, rfl, rfl, ?_⟩⟩
    rcases hb with rfl | hb
    · simp at hi
    · exact ⟨hget_lt hb, hb⟩

/-- Behind an error nothing is read. -/
theorem field_err {r : RS} (h : r.err ≠ 0) (right : Bool) (w : Int) : r.field right w = (0, r) := by simp [RS.field, h]
theorem read_err {r : RS} (h : r.err ≠ 0) (f : Fld) : (r.read f).2 = r ∧ (r.read f).1.kind = f.kind ∧ (0 ≤ f.kind → f.kind ≤ 3 → (r.read f).1.n = 0 ∧ (r.read f).1.s = ⟨#[]⟩) := by
  unfold RS.read
  split
  · simp [RS.unsigned, field_err h]
  · split
    · simp [RS.signed, field_err h, h]
    · split
      · simp [RS.flag, field_err h]
      · split
        · simp [RS.text, field_err h, h]
        · rename_i h0 h1 h2 h3
          exact ⟨rfl, rfl, fun a b => by omega⟩
theorem unsigned_ok {r : RS} (h : r.Ok) (w : Int) : (r.unsigned w).2.Ok := RS.field_ok h fun hr => by simp at hr; omega
theorem signed_ok {r : RS} (h : r.Ok) (w : Int) : (r.signed w).2.Ok := RS.field_ok h fun hr => by simp at hr; omega
theorem flag_ok {r : RS} (h : r.Ok) : r.flag.2.Ok := RS.field_ok h fun hr => by omega
theorem text_ok {r : RS} (h : r.Ok) (w : Int) : (r.text w).2.Ok := by
  have h1 := RS.field_ok h (right := lim w) (w := (wd w : Int)) (fun _ => by omega)
  unfold RS.text
  generalize r.field (lim w) (wd w) = x at *
  obtain ⟨n, r'⟩ := x
  simp only at h1 ⊢
  split
  · exact h1
  · split
    · exact ⟨h1.at_le, h1.size⟩
    · split
      · exact ⟨h1.at_le, h1.size⟩
      · rename_i h2 h3 h4
        simp only [RS.left, if_pos (Classical.not_not.1 h2)] at h4
        have := h1.at_le
        exact ⟨by simp only; omega, h1.size⟩
theorem read_ok {r : RS} (h : r.Ok) (f : Fld) : (r.read f).2.Ok := by
  unfold RS.read
  split
  · exact unsigned_ok h _
  · split
    · exact signed_ok h _
    · split
      · exact flag_ok h
      · split
        · exact text_ok h _
        · exact h

end Go.Proofs.Ytlbhbjaimcinbaa.AI

/- BitioSigned in the interpreter. -/
set_option linter.unusedSimpArgs false
namespace Go.Proofs.Ytlbhbjaimcinbaa.AI
open Go

theorem binV_seq (s : ByteArray) : binV .eql (.string s) (.string s) = some (.bool true) := by
  simp only [binV, Op.stringOp]; simp; rfl
theorem pow_cast (k : Nat) : (2 : Int) ^ k = ((2 ^ k : Nat) : Int) := by push_cast; rfl
theorem pow_dvd_pow_int {k j : Nat} (h : k ≤ j) : (2 : Int) ^ k ∣ 2 ^ j := ⟨2 ^ (j - k), by rw [← Int.pow_add]; congr 1; omega⟩
theorem u64_mod (n : Int) {k : Nat} (hk : k ≤ 64) : (((u64 n % 2 ^ k : Nat)) : Int) = n % 2 ^ k := by
  unfold u64
  have h0 : (0 : Int) ≤ n % 18446744073709551616 := by omega
  rw [Int.natCast_emod, Int.toNat_of_nonneg h0, ← pow_cast]
  exact Int.emod_emod_of_dvd n (by rw [show (18446744073709551616 : Int) = 2 ^ 64 by decide]; exact pow_dvd_pow_int hk)

/-- A number and its rest. -/
theorem signed_back {n : Int} {m : Nat} (h1 : -2 ^ m ≤ n) (h2 : n < 2 ^ m) : (if (2 : Int) ^ m ≤ n % 2 ^ (m + 1) then n % 2 ^ (m + 1) - 2 ^ (m + 1) else n % 2 ^ (m + 1)) = n := by
  have hp : (2 : Int) ^ (m + 1) = 2 * 2 ^ m := by rw [Int.pow_succ]; omega
  have hq := pow_pos' m
  rw [hp]
  generalize (2 : Int) ^ m = q at *
  by_cases h : 0 ≤ n
  · have : n % (2 * q) = n := Int.emod_eq_of_lt h (by omega)
    rw [this, if_neg (by omega)]
  · have : n % (2 * q) = n + 2 * q := by
      have h3 : (n + 2 * q) % (2 * q) = n % (2 * q) := by simp
      rw [← h3]; exact Int.emod_eq_of_lt (by omega) (by omega)
    rw [this, if_pos (by omega)]; omega

theorem read_back {n : Int} {m : Nat} {s : ByteArray} (hm : 1 ≤ m ∧ m ≤ 61) (h1 : -2 ^ m ≤ n) (h2 : n < 2 ^ m) (hs : IsStr (bitsOf (m + 1) (u64 n)) s) : newR s = ⟨s, 0, 0⟩ ∧ ((⟨s, 0, 0⟩ : RS).signed ((m + 1 : Nat) : Int)).1 = n := by
  have hsz : s.size = (m + 1 + 7) / 8 := by
    obtain ⟨d, _, hd, rfl⟩ := hs
    rw [strOf_size, hd, bitsOf_length]
  have hnr : newR s = ⟨s, 0, 0⟩ := by unfold newR; rw [if_neg (by omega)]
  refine ⟨hnr, ?_⟩
  have hv : valOf s 0 (m + 1) = u64 n % 2 ^ (m + 1) := valOf_read hs (by omega) (fun i hi => by
    rw [Nat.zero_add, List.getD_eq_getElem?_getD, bitsOf_get _ _ _ hi]; rfl)
  have hf : (⟨s, 0, 0⟩ : RS).field true ((m + 1 : Nat) : Int) = (u64 n % 2 ^ (m + 1), ⟨s, m + 1, 0⟩) := by
    unfold RS.field
    rw [if_neg (by simp), if_neg (by simp), if_neg (by simp [RS.left]; omega)]
    simp only [Int.toNat_natCast, hv, Nat.zero_add]
  have hd : decide ((2 : Int) ≤ ((m + 1 : Nat) : Int) ∧ ((m + 1 : Nat) : Int) ≤ 63) = true := by simp; omega
  have hmod := u64_mod n (k := m + 1) (by omega)
  have hb := signed_back h1 h2
  simp only [RS.signed, hd, hf, Int.toNat_natCast, Nat.add_sub_cancel, true_and]
  rw [← hmod] at hb
  have hc : (2 : Int) ^ m ≤ ((u64 n % 2 ^ (m + 1) : Nat) : Int) ↔ 2 ^ m ≤ u64 n % 2 ^ (m + 1) := by rw [pow_cast]; omega
  by_cases h : 2 ^ m ≤ u64 n % 2 ^ (m + 1)
  · rw [if_pos (hc.2 h)] at hb; rw [if_pos h]; exact hb
  · rw [if_neg (fun hh => h (hc.1 hh))] at hb; rw [if_neg h]; exact hb

theorem signed (H : Heap) (a n : Int) (ha : 0 ≤ a ∧ a < 256) (hn : Is64 n) : Op1 (AC tbl 6 [.int .u8 a, .int .i64 n] H) fun v _ => v = .bool true := by
  apply AC_wp (F := F6) rfl (by simp [F6]) (.inl rfl)
  obtain ⟨b, rfl⟩ : ∃ b : Nat, a = b := ⟨a.toNat, by omega⟩
  have w1 : IntKind.i64.wrap (b : Int) = (b : Int) := wrap_i64 (by omega) (by omega)
  have w2 : binV .rem (.int .i64 (b : Int)) (.int .i64 61) = some (.int .i64 ((b % 61 : Nat) : Int)) := by rw [binV_rem _ _ _ (by omega)]; rfl
  obtain ⟨m, hm⟩ : ∃ m : Nat, m = b % 61 + 1 := ⟨_, rfl⟩
  have w3 : IntKind.i64.wrap (2 + ((b % 61 : Nat) : Int)) = ((m + 1 : Nat) : Int) := by rw [wrap_i64 (by omega) (by omega)]; omega
  have w4 : IntKind.i64.wrap (((m + 1 : Nat) : Int) - 1) = (m : Int) := by rw [wrap_i64 (by omega) (by omega)]; omega
  have hm1 : 1 ≤ m ∧ m ≤ 61 := by omega
  have q1 := pow_small (k := m) (by omega)
  have q2 := pow_small (k := m + 1) (by omega)
  have q3 := pow_pos' m
  have hp2 : (2 : Int) ^ (m + 1) = 2 * 2 ^ m := by rw [Int.pow_succ]; omega
  have s1 := shl_int 1 m (.inl rfl) (by omega)
  have s2 := shl_int 1 (m + 1) (.inl rfl) (by omega)
  rw [Int.one_mul] at s1 s2
  have w5 : IntKind.i64.wrap (0 - 2 ^ m) = -2 ^ m := by rw [wrap_i64 (by omega) (by omega)]; omega
  have g1 : WSt (H ++ [some ⟨true, [.slice none 0 0, .int .i64 0, .int .i64 0]⟩] ++ [some ⟨true, [.slice none 0 0, .int .i64 0, .int .i64 0]⟩]) H.length none [] 0 := (newWriter_st H).frame (O := []) ((Frm.refl _ _).push _) (by simp) (by simp)
  have g2 : WSt (H ++ [some ⟨true, [.slice none 0 0, .int .i64 0, .int .i64 0]⟩] ++ [some ⟨true, [.slice none 0 0, .int .i64 0, .int .i64 0]⟩]) (H.length + 1) none [] 0 := by
    have := newWriter_st (H ++ [some ⟨true, [.slice none 0 0, .int .i64 0, .int .i64 0]⟩])
    simpa using this
  have fw : (2 : Int) ≤ ((m + 1 : Nat) : Int) ∧ ((m + 1 : Nat) : Int) ≤ 63 := by omega
  have ft : (((m + 1 : Nat) : Int)).toNat = m + 1 := by omega
  simp only [F6, ↓RW_seq, ↓AW_ret, ↓AW_skip, ↓AW_exit, ↓AW_block, ↓RW_cond, ↓RW_reg, ↓RW_regd, ↓RO_op, ↓RO_t, ↓RO_f, ↓RO_nt, ↓RO_nf, ↓AO_nil, ↓RD_op, ↓RD_t, ↓RD_f, ↓RD_nt, ↓RD_fe, ↓RD_nte, ↓RD_nf, ↓AOD_nil, CDops_eff, CDops_no, CDops_1, CDops_2, Again_nil, Again_cons, Same1_int, Same1_bool, Same1_str, Same1_ptr, Same1_slice, Same1_nil, CSeq_ap, CReg_ap, COps_ap, Then_normal, Then_ret, Then_exit, InBlock_normal, InBlock_ret, InBlock_self, InBlock_exit, Ends_ret, Ends_normal, ares, tup, finO_some, fin_same, fin_false, argsE, dval, aop, ev, evs, evo, evp, fillL, addrOf, intOf?, lk_put, lk_none, lk_cons, lk_nil, keep_nil, keep_cons, Op1_some, Option.map_some, Option.bind_some, reduceIte, Nat.reduceEqDiff, binV_lss, binV_leq, binV_gtr, binV_geq, binV_eql, binV_neq, binV_add, binV_sub, binV_mul, un_not, CondA_false, CondA_true, Bool.not_true, Bool.not_false, reduceCtorEq, decide_true, decide_false, Nat.add_zero, Nat.zero_add, Nat.reduceAdd, Nat.reduceMul, Bool.bne_false, Bool.bne_true, eqPtr, Option.isNone_some, Option.isNone_none, List.getElem?_cons_zero, List.getElem?_cons_succ, Option.isSome_none, Option.isSome_some , hload, hstore, List.length_cons, List.length_nil, Nat.reduceAdd, Nat.reduceLeDiff, decide_true, List.all_cons, List.all_nil, one, Bool.and_true, Bool.true_and, Bool.and_self, splice, List.set_cons_zero, List.set_cons_succ, List.getElem?_cons_zero, List.getElem?_cons_succ, vc_int, vc_slice, vc_str, vc_bool, vc_int', vc_slice', vc_str', vc_bool', List.length_set, List.length_append, Nat.lt_irrefl, Nat.lt_add_one, and_self, true_and, and_true, lenV, cellsOfSlice, Nat.le_refl, if_true , awake_any, w1, w2, w3, newWriter_eq]
  refine signed_spec (s := ⟨[], 0⟩) g1 (by simp) fun H1 o1 k1 k2 k3 => ?_
  have g3 := g2.frame k2 (by simp) (by simp)
  by_cases hr : -2 ^ m ≤ n ∧ n < 2 ^ m
  · obtain ⟨r1, r2⟩ := hr
    have e1 : WS.signed ⟨[], 0⟩ ((m + 1 : Nat) : Int) n = ⟨bitsOf (m + 1) (u64 n), 0⟩ := by
      have f3 : ¬ (524288 : Int) < ((([] : List Bool).length : Nat) : Int) + ((m + 1 : Nat) : Int) := by simp; omega
      simp only [WS.signed, WS.field, ft, Nat.add_sub_cancel, fw, r1, r2, and_self, decide_true, ne_eq, not_true_eq_false, if_false, Bool.true_eq_false, f3, List.nil_append]
    rw [e1] at k1
    obtain ⟨s3, is3, b3⟩ := bytes_spec k1
    simp only [if_true] at b3 is3
    obtain ⟨hnr, hback⟩ := read_back hm1 r1 r2 is3
    have nlt : ¬ n < -2 ^ m := by omega
    have nge : ¬ 2 ^ m ≤ n := by omega
    have tail : ∀ u : Int, 0 ≤ u → u < 2 ^ (m + 1) → u % 2 ^ (m + 1) = n % 2 ^ (m + 1) → WS.unsigned ⟨[], 0⟩ ((m + 1 : Nat) : Int) u = ⟨bitsOf (m + 1) (u64 n), 0⟩ := by
      intro u u0 u1 u2
      have f2 : (1 : Int) ≤ ((m + 1 : Nat) : Int) ∧ ((m + 1 : Nat) : Int) ≤ 63 := by omega
      have f3 : ¬ (524288 : Int) < ((([] : List Bool).length : Nat) : Int) + ((m + 1 : Nat) : Int) := by simp; omega
      have hbm : bitsOf (m + 1) (u64 u) = bitsOf (m + 1) (u64 n) := by
        apply bitsOf_mod
        have a1 := u64_mod u (k := m + 1) (by omega)
        have a2 := u64_mod n (k := m + 1) (by omega)
        rw [u2, ← a2] at a1
        exact Int.ofNat.inj a1
      simp only [WS.unsigned, WS.field, ne_eq, not_true_eq_false, if_false, f2, and_self, decide_true, true_and, u0, ft, u1, f3, List.nil_append, Bool.true_eq_false, hbm]
    have hend : ∀ (H2 : Heap), AC tbl 27 [.pointer (some ⟨H2.length, 0, none⟩), .int .i64 ((m + 1 : Nat) : Int)] (H2 ++ [some ⟨true, (⟨s3, 0, 0⟩ : RS).cells⟩]) = some (.int .i64 n, setR (H2 ++ [some ⟨true, (⟨s3, 0, 0⟩ : RS).cells⟩]) H2.length ((⟨s3, 0, 0⟩ : RS).signed ((m + 1 : Nat) : Int)).2) := by
      intro H2
      have ho : (⟨s3, 0, 0⟩ : RS).Ok := hnr ▸ newR_ok s3
      have := rsigned_spec (H := H2 ++ [some ⟨true, (⟨s3, 0, 0⟩ : RS).cells⟩]) (p := H2.length) (r := ⟨s3, 0, 0⟩) (w := ((m + 1 : Nat) : Int)) (show hget _ _ = _ from hget_append_self) ho
      rw [hback] at this; exact this
    by_cases h0 : n < 0
    · have w6 : IntKind.i64.wrap (n + 2 ^ (m + 1)) = n + 2 ^ (m + 1) := wrap_i64 (by omega) (by omega)
      simp only [↓RW_seq, ↓AW_ret, ↓AW_skip, ↓AW_exit, ↓AW_block, ↓RW_cond, ↓RW_reg, ↓RW_regd, ↓RO_op, ↓RO_t, ↓RO_f, ↓RO_nt, ↓RO_nf, ↓AO_nil, ↓RD_op, ↓RD_t, ↓RD_f, ↓RD_nt, ↓RD_fe, ↓RD_nte, ↓RD_nf, ↓AOD_nil, CDops_eff, CDops_no, CDops_1, CDops_2, Again_nil, Again_cons, Same1_int, Same1_bool, Same1_str, Same1_ptr, Same1_slice, Same1_nil, CSeq_ap, CReg_ap, COps_ap, Then_normal, Then_ret, Then_exit, InBlock_normal, InBlock_ret, InBlock_self, InBlock_exit, Ends_ret, Ends_normal, ares, tup, finO_some, fin_same, fin_false, argsE, dval, aop, ev, evs, evo, evp, fillL, addrOf, intOf?, lk_put, lk_none, lk_cons, lk_nil, keep_nil, keep_cons, Op1_some, Option.map_some, Option.bind_some, reduceIte, Nat.reduceEqDiff, binV_lss, binV_leq, binV_gtr, binV_geq, binV_eql, binV_neq, binV_add, binV_sub, binV_mul, un_not, CondA_false, CondA_true, Bool.not_true, Bool.not_false, reduceCtorEq, decide_true, decide_false, Nat.add_zero, Nat.zero_add, Nat.reduceAdd, Nat.reduceMul, Bool.bne_false, Bool.bne_true, eqPtr, Option.isNone_some, Option.isNone_none, List.getElem?_cons_zero, List.getElem?_cons_succ, Option.isSome_none, Option.isSome_some , hload, hstore, List.length_cons, List.length_nil, Nat.reduceAdd, Nat.reduceLeDiff, decide_true, List.all_cons, List.all_nil, one, Bool.and_true, Bool.true_and, Bool.and_self, splice, List.set_cons_zero, List.set_cons_succ, List.getElem?_cons_zero, List.getElem?_cons_succ, vc_int, vc_slice, vc_str, vc_bool, vc_int', vc_slice', vc_str', vc_bool', List.length_set, List.length_append, Nat.lt_irrefl, Nat.lt_add_one, and_self, true_and, and_true, lenV, cellsOfSlice, Nat.le_refl, if_true , b3, w4, s1, un_neg, w5, nlt, nge, h0, s2, w6]
      refine unsigned_spec (s := ⟨[], 0⟩) g3 (by simp) ⟨by omega, by omega⟩ fun H2 o2 m1 m2 m3 => ?_
      rw [tail _ (by omega) (by omega) (by simp)] at m1
      obtain ⟨s4, is4, b4⟩ := bytes_spec m1
      simp only [if_true] at b4 is4
      obtain rfl := is3.same is4
      simp only [↓RW_seq, ↓AW_ret, ↓AW_skip, ↓AW_exit, ↓AW_block, ↓RW_cond, ↓RW_reg, ↓RW_regd, ↓RO_op, ↓RO_t, ↓RO_f, ↓RO_nt, ↓RO_nf, ↓AO_nil, ↓RD_op, ↓RD_t, ↓RD_f, ↓RD_nt, ↓RD_fe, ↓RD_nte, ↓RD_nf, ↓AOD_nil, CDops_eff, CDops_no, CDops_1, CDops_2, Again_nil, Again_cons, Same1_int, Same1_bool, Same1_str, Same1_ptr, Same1_slice, Same1_nil, CSeq_ap, CReg_ap, COps_ap, Then_normal, Then_ret, Then_exit, InBlock_normal, InBlock_ret, InBlock_self, InBlock_exit, Ends_ret, Ends_normal, ares, tup, finO_some, fin_same, fin_false, argsE, dval, aop, ev, evs, evo, evp, fillL, addrOf, intOf?, lk_put, lk_none, lk_cons, lk_nil, keep_nil, keep_cons, Op1_some, Option.map_some, Option.bind_some, reduceIte, Nat.reduceEqDiff, binV_lss, binV_leq, binV_gtr, binV_geq, binV_eql, binV_neq, binV_add, binV_sub, binV_mul, un_not, CondA_false, CondA_true, Bool.not_true, Bool.not_false, reduceCtorEq, decide_true, decide_false, Nat.add_zero, Nat.zero_add, Nat.reduceAdd, Nat.reduceMul, Bool.bne_false, Bool.bne_true, eqPtr, Option.isNone_some, Option.isNone_none, List.getElem?_cons_zero, List.getElem?_cons_succ, Option.isSome_none, Option.isSome_some , hload, hstore, List.length_cons, List.length_nil, Nat.reduceAdd, Nat.reduceLeDiff, decide_true, List.all_cons, List.all_nil, one, Bool.and_true, Bool.true_and, Bool.and_self, splice, List.set_cons_zero, List.set_cons_succ, List.getElem?_cons_zero, List.getElem?_cons_succ, vc_int, vc_slice, vc_str, vc_bool, vc_int', vc_slice', vc_str', vc_bool', List.length_set, List.length_append, Nat.lt_irrefl, Nat.lt_add_one, and_self, true_and, and_true, lenV, cellsOfSlice, Nat.le_refl, if_true , b4, newReader_eq, hnr, hend, binV_seq, eq_self]
    · simp only [↓RW_seq, ↓AW_ret, ↓AW_skip, ↓AW_exit, ↓AW_block, ↓RW_cond, ↓RW_reg, ↓RW_regd, ↓RO_op, ↓RO_t, ↓RO_f, ↓RO_nt, ↓RO_nf, ↓AO_nil, ↓RD_op, ↓RD_t, ↓RD_f, ↓RD_nt, ↓RD_fe, ↓RD_nte, ↓RD_nf, ↓AOD_nil, CDops_eff, CDops_no, CDops_1, CDops_2, Again_nil, Again_cons, Same1_int, Same1_bool, Same1_str, Same1_ptr, Same1_slice, Same1_nil, CSeq_ap, CReg_ap, COps_ap, Then_normal, Then_ret, Then_exit, InBlock_normal, InBlock_ret, InBlock_self, InBlock_exit, Ends_ret, Ends_normal, ares, tup, finO_some, fin_same, fin_false, argsE, dval, aop, ev, evs, evo, evp, fillL, addrOf, intOf?, lk_put, lk_none, lk_cons, lk_nil, keep_nil, keep_cons, Op1_some, Option.map_some, Option.bind_some, reduceIte, Nat.reduceEqDiff, binV_lss, binV_leq, binV_gtr, binV_geq, binV_eql, binV_neq, binV_add, binV_sub, binV_mul, un_not, CondA_false, CondA_true, Bool.not_true, Bool.not_false, reduceCtorEq, decide_true, decide_false, Nat.add_zero, Nat.zero_add, Nat.reduceAdd, Nat.reduceMul, Bool.bne_false, Bool.bne_true, eqPtr, Option.isNone_some, Option.isNone_none, List.getElem?_cons_zero, List.getElem?_cons_succ, Option.isSome_none, Option.isSome_some , hload, hstore, List.length_cons, List.length_nil, Nat.reduceAdd, Nat.reduceLeDiff, decide_true, List.all_cons, List.all_nil, one, Bool.and_true, Bool.true_and, Bool.and_self, splice, List.set_cons_zero, List.set_cons_succ, List.getElem?_cons_zero, List.getElem?_cons_succ, vc_int, vc_slice, vc_str, vc_bool, vc_int', vc_slice', vc_str', vc_bool', List.length_set, List.length_append, Nat.lt_irrefl, Nat.lt_add_one, and_self, true_and, and_true, lenV, cellsOfSlice, Nat.le_refl, if_true , b3, w4, s1, un_neg, w5, nlt, nge, h0]
      refine unsigned_spec (s := ⟨[], 0⟩) g3 (by simp) hn fun H2 o2 m1 m2 m3 => ?_
      rw [tail _ (by omega) (by omega) rfl] at m1
      obtain ⟨s4, is4, b4⟩ := bytes_spec m1
      simp only [if_true] at b4 is4
      obtain rfl := is3.same is4
      simp only [↓RW_seq, ↓AW_ret, ↓AW_skip, ↓AW_exit, ↓AW_block, ↓RW_cond, ↓RW_reg, ↓RW_regd, ↓RO_op, ↓RO_t, ↓RO_f, ↓RO_nt, ↓RO_nf, ↓AO_nil, ↓RD_op, ↓RD_t, ↓RD_f, ↓RD_nt, ↓RD_fe, ↓RD_nte, ↓RD_nf, ↓AOD_nil, CDops_eff, CDops_no, CDops_1, CDops_2, Again_nil, Again_cons, Same1_int, Same1_bool, Same1_str, Same1_ptr, Same1_slice, Same1_nil, CSeq_ap, CReg_ap, COps_ap, Then_normal, Then_ret, Then_exit, InBlock_normal, InBlock_ret, InBlock_self, InBlock_exit, Ends_ret, Ends_normal, ares, tup, finO_some, fin_same, fin_false, argsE, dval, aop, ev, evs, evo, evp, fillL, addrOf, intOf?, lk_put, lk_none, lk_cons, lk_nil, keep_nil, keep_cons, Op1_some, Option.map_some, Option.bind_some, reduceIte, Nat.reduceEqDiff, binV_lss, binV_leq, binV_gtr, binV_geq, binV_eql, binV_neq, binV_add, binV_sub, binV_mul, un_not, CondA_false, CondA_true, Bool.not_true, Bool.not_false, reduceCtorEq, decide_true, decide_false, Nat.add_zero, Nat.zero_add, Nat.reduceAdd, Nat.reduceMul, Bool.bne_false, Bool.bne_true, eqPtr, Option.isNone_some, Option.isNone_none, List.getElem?_cons_zero, List.getElem?_cons_succ, Option.isSome_none, Option.isSome_some , hload, hstore, List.length_cons, List.length_nil, Nat.reduceAdd, Nat.reduceLeDiff, decide_true, List.all_cons, List.all_nil, one, Bool.and_true, Bool.true_and, Bool.and_self, splice, List.set_cons_zero, List.set_cons_succ, List.getElem?_cons_zero, List.getElem?_cons_succ, vc_int, vc_slice, vc_str, vc_bool, vc_int', vc_slice', vc_str', vc_bool', List.length_set, List.length_append, Nat.lt_irrefl, Nat.lt_add_one, and_self, true_and, and_true, lenV, cellsOfSlice, Nat.le_refl, if_true , b4, newReader_eq, hnr, hend, binV_seq, eq_self]
  · have e1 : WS.signed ⟨[], 0⟩ ((m + 1 : Nat) : Int) n = ⟨[], 2⟩ := by
      simp only [WS.signed, WS.field, ft, Nat.add_sub_cancel, fw, hr, and_self, and_false, decide_true, decide_false, ne_eq, not_true_eq_false, if_false, Bool.true_eq_false, if_true]
    rw [e1] at k1
    obtain ⟨s3, is3, b3⟩ := bytes_spec k1
    have n2 : ¬ (2 : Int) = 0 := by decide
    simp only [n2, if_false] at b3
    by_cases hr1 : n < -2 ^ m
    · simp only [↓RW_seq, ↓AW_ret, ↓AW_skip, ↓AW_exit, ↓AW_block, ↓RW_cond, ↓RW_reg, ↓RW_regd, ↓RO_op, ↓RO_t, ↓RO_f, ↓RO_nt, ↓RO_nf, ↓AO_nil, ↓RD_op, ↓RD_t, ↓RD_f, ↓RD_nt, ↓RD_fe, ↓RD_nte, ↓RD_nf, ↓AOD_nil, CDops_eff, CDops_no, CDops_1, CDops_2, Again_nil, Again_cons, Same1_int, Same1_bool, Same1_str, Same1_ptr, Same1_slice, Same1_nil, CSeq_ap, CReg_ap, COps_ap, Then_normal, Then_ret, Then_exit, InBlock_normal, InBlock_ret, InBlock_self, InBlock_exit, Ends_ret, Ends_normal, ares, tup, finO_some, fin_same, fin_false, argsE, dval, aop, ev, evs, evo, evp, fillL, addrOf, intOf?, lk_put, lk_none, lk_cons, lk_nil, keep_nil, keep_cons, Op1_some, Option.map_some, Option.bind_some, reduceIte, Nat.reduceEqDiff, binV_lss, binV_leq, binV_gtr, binV_geq, binV_eql, binV_neq, binV_add, binV_sub, binV_mul, un_not, CondA_false, CondA_true, Bool.not_true, Bool.not_false, reduceCtorEq, decide_true, decide_false, Nat.add_zero, Nat.zero_add, Nat.reduceAdd, Nat.reduceMul, Bool.bne_false, Bool.bne_true, eqPtr, Option.isNone_some, Option.isNone_none, List.getElem?_cons_zero, List.getElem?_cons_succ, Option.isSome_none, Option.isSome_some , hload, hstore, List.length_cons, List.length_nil, Nat.reduceAdd, Nat.reduceLeDiff, decide_true, List.all_cons, List.all_nil, one, Bool.and_true, Bool.true_and, Bool.and_self, splice, List.set_cons_zero, List.set_cons_succ, List.getElem?_cons_zero, List.getElem?_cons_succ, vc_int, vc_slice, vc_str, vc_bool, vc_int', vc_slice', vc_str', vc_bool', List.length_set, List.length_append, Nat.lt_irrefl, Nat.lt_add_one, and_self, true_and, and_true, lenV, cellsOfSlice, Nat.le_refl, if_true , b3, w4, s1, un_neg, w5, hr1, binV_seq, eq_self]
    · have hr2 : 2 ^ m ≤ n := by omega
      simp only [↓RW_seq, ↓AW_ret, ↓AW_skip, ↓AW_exit, ↓AW_block, ↓RW_cond, ↓RW_reg, ↓RW_regd, ↓RO_op, ↓RO_t, ↓RO_f, ↓RO_nt, ↓RO_nf, ↓AO_nil, ↓RD_op, ↓RD_t, ↓RD_f, ↓RD_nt, ↓RD_fe, ↓RD_nte, ↓RD_nf, ↓AOD_nil, CDops_eff, CDops_no, CDops_1, CDops_2, Again_nil, Again_cons, Same1_int, Same1_bool, Same1_str, Same1_ptr, Same1_slice, Same1_nil, CSeq_ap, CReg_ap, COps_ap, Then_normal, Then_ret, Then_exit, InBlock_normal, InBlock_ret, InBlock_self, InBlock_exit, Ends_ret, Ends_normal, ares, tup, finO_some, fin_same, fin_false, argsE, dval, aop, ev, evs, evo, evp, fillL, addrOf, intOf?, lk_put, lk_none, lk_cons, lk_nil, keep_nil, keep_cons, Op1_some, Option.map_some, Option.bind_some, reduceIte, Nat.reduceEqDiff, binV_lss, binV_leq, binV_gtr, binV_geq, binV_eql, binV_neq, binV_add, binV_sub, binV_mul, un_not, CondA_false, CondA_true, Bool.not_true, Bool.not_false, reduceCtorEq, decide_true, decide_false, Nat.add_zero, Nat.zero_add, Nat.reduceAdd, Nat.reduceMul, Bool.bne_false, Bool.bne_true, eqPtr, Option.isNone_some, Option.isNone_none, List.getElem?_cons_zero, List.getElem?_cons_succ, Option.isSome_none, Option.isSome_some , hload, hstore, List.length_cons, List.length_nil, Nat.reduceAdd, Nat.reduceLeDiff, decide_true, List.all_cons, List.all_nil, one, Bool.and_true, Bool.true_and, Bool.and_self, splice, List.set_cons_zero, List.set_cons_succ, List.getElem?_cons_zero, List.getElem?_cons_succ, vc_int, vc_slice, vc_str, vc_bool, vc_int', vc_slice', vc_str', vc_bool', List.length_set, List.length_append, Nat.lt_irrefl, Nat.lt_add_one, and_self, true_and, and_true, lenV, cellsOfSlice, Nat.le_refl, if_true , b3, w4, s1, un_neg, w5, hr1, hr2, binV_seq, eq_self]

end Go.Proofs.Ytlbhbjaimcinbaa.AI

/- Fields as bits: what is written, what is read. -/
set_option linter.unusedSimpArgs false
namespace Go.Proofs.Ytlbhbjaimcinbaa.AI
open Go

/-- Some of a string's bits. -/
def seg (s : ByteArray) (a n : Nat) : List Bool := (List.range n).map fun i => sbit s (a + i)
theorem seg_length (s : ByteArray) (a n : Nat) : (seg s a n).length = n := by simp [seg]
theorem seg_get {s : ByteArray} {a n i : Nat} (h : i < n) : (seg s a n)[i]? = some (sbit s (a + i)) := by simp [seg, h]
theorem seg_append (s : ByteArray) (a n m : Nat) : seg s a (n + m) = seg s a n ++ seg s (a + n) m := by
  unfold seg
  rw [List.range_add, List.map_append, List.map_map]
  congr 1
  apply List.map_congr_left
  intro i _
  simp [Nat.add_assoc]
theorem seg_zero (s : ByteArray) (a : Nat) : seg s a 0 = [] := rfl

theorem valOf_testBit (s : ByteArray) (a : Nat) : ∀ (w i : Nat), i < w → (valOf s a w).testBit (w - 1 - i) = sbit s (a + i) := by
  intro w
  induction w with
  | zero => intro i h; omega
  | succ w ih =>
    intro i h
    have hb : (sbit s (a + w)).toNat < 2 := by cases sbit s (a + w) <;> simp
    by_cases hi : i = w
    · subst hi
      rw [show i + 1 - 1 - i = 0 by omega, valOf, Nat.testBit_zero]
      cases sbit s (a + i) <;> simp <;> omega
    · rw [show w + 1 - 1 - i = (w - 1 - i) + 1 by omega, valOf, Nat.testBit_succ, ← ih i (by omega)]
      congr 1; omega
theorem bits_val (s : ByteArray) (a w : Nat) : bitsOf w (valOf s a w) = seg s a w := by
  apply List.ext_getElem?
  intro i
  by_cases hi : i < w
  · rw [bitsOf_get _ _ _ hi, seg_get hi, valOf_testBit s a w i hi]
  · rw [List.getElem?_eq_none (by rw [bitsOf_length]; omega), List.getElem?_eq_none (by rw [seg_length]; omega)]
theorem val_seg {s : ByteArray} {a w n : Nat} (h : seg s a w = bitsOf w n) : valOf s a w = n % 2 ^ w := by
  have := valOf_bits (s := s) (a := a) (w := w) (n := n) (fun i hi => by
    have h1 := seg_get (s := s) (a := a) hi
    rw [h, bitsOf_get _ _ _ hi] at h1
    exact (Option.some.inj h1).symm) w (Nat.le_refl _)
  simpa using this

/-- A text's bytes as numbers. -/
def nums (t : ByteArray) : List Nat := t.data.toList.map UInt8.toNat
theorem strOf_nums (t : ByteArray) : strOf (nums t) = t := by
  have h : (nums t).map UInt8.ofNat = t.data.toList := by
    unfold nums; rw [List.map_map]
    conv => rhs; rw [← List.map_id t.data.toList]
    apply List.map_congr_left
    intro b _; simp
  unfold strOf; rw [h]
theorem nums_strOf {d : List Nat} (h : ∀ x ∈ d, x < 256) : nums (strOf d) = d := by
  unfold nums strOf
  simp only [List.map_map]
  conv => rhs; rw [← List.map_id d]
  apply List.map_congr_left
  intro x hx
  have := h x hx
  simp; omega
theorem textBits_nums (t : ByteArray) : textBits t = ((nums t).map fun x => bitsOf 8 x).flatten := by
  unfold textBits nums; rw [List.map_map]; rfl
theorem nums_length (t : ByteArray) : (nums t).length = t.size := by unfold nums; rw [List.length_map, size_list]
theorem flat8_seg (s : ByteArray) (a : Nat) : ∀ n, ((readL s a n).map fun x => bitsOf 8 x).flatten = seg s a (8 * n) := by
  intro n
  induction n with
  | zero => rfl
  | succ n ih =>
    rw [readL_succ, List.map_append, List.flatten_append, ih, show 8 * (n + 1) = 8 * n + 8 by omega, seg_append]
    simp [bits_val]
theorem textBits_read (s : ByteArray) (a n : Nat) : textBits (strOf (readL s a n)) = seg s a (8 * n) := by
  rw [textBits_nums, nums_strOf (readL_small s a n), flat8_seg]
theorem textBits_length (t : ByteArray) : (textBits t).length = 8 * t.size := by
  rw [← textPre_all, textPre_length _ _ (Nat.le_refl _)]
theorem flat8_inj : ∀ {x y : List Nat}, (∀ v ∈ x, v < 256) → (∀ v ∈ y, v < 256) → x.length = y.length → (x.map fun v => bitsOf 8 v).flatten = (y.map fun v => bitsOf 8 v).flatten → x = y := by
  intro x
  induction x with
  | nil => intro y _ _ hl _; exact (List.eq_nil_of_length_eq_zero hl.symm).symm
  | cons a x ih =>
    intro y hx hy hl h
    cases y with
    | nil => simp at hl
    | cons b y =>
      simp only [List.map_cons, List.flatten_cons] at h
      have h1 := List.append_inj h (by rw [bitsOf_length, bitsOf_length])
      have h2 := ih (fun v hv => hx v (List.mem_cons_of_mem _ hv)) (fun v hv => hy v (List.mem_cons_of_mem _ hv)) (by simpa using hl) h1.2
      have ha := hx a List.mem_cons_self
      have hb := hy b List.mem_cons_self
      have : a = b := by
        apply Nat.eq_of_testBit_eq
        intro i
        by_cases hi : i < 8
        · have e1 := bitsOf_get 8 a (7 - i) (by omega)
          have e2 := bitsOf_get 8 b (7 - i) (by omega)
          rw [h1.1, e2] at e1
          have := Option.some.inj e1
          rw [show 8 - 1 - (7 - i) = i by omega] at this
          exact this.symm
        · rw [Nat.testBit_lt_two_pow (Nat.lt_of_lt_of_le ha (by calc 256 = 2 ^ 8 := by decide
                _ ≤ 2 ^ i := Nat.pow_le_pow_right (by omega) (by omega))), Nat.testBit_lt_two_pow (Nat.lt_of_lt_of_le hb (by calc 256 = 2 ^ 8 := by decide
                _ ≤ 2 ^ i := Nat.pow_le_pow_right (by omega) (by omega)))]
      rw [this, h2]
theorem nums_small (t : ByteArray) : ∀ x ∈ nums t, x < 256 := by
  intro x hx
  simp only [nums, List.mem_map] at hx
  obtain ⟨b, _, rfl⟩ := hx
  exact b.toNat_lt
theorem read_text {s t : ByteArray} {a : Nat} (h : seg s a (8 * t.size) = textBits t) : strOf (readL s a t.size) = t := by
  have : readL s a t.size = nums t := by
    apply flat8_inj (readL_small _ _ _) (nums_small t) (by rw [readL_length, nums_length])
    rw [flat8_seg, h, textBits_nums]
  rw [this, strOf_nums]

end Go.Proofs.Ytlbhbjaimcinbaa.AI

/- Fields that are written are read, and those that are read are written. -/
set_option linter.unusedSimpArgs false
namespace Go.Proofs.Ytlbhbjaimcinbaa.AI
open Go

theorem wfield_inv {s : WS} {right fits : Bool} {w n : Int} (h0 : s.err = 0) (h : (s.field right fits w n).err = 0) :
    right = true ∧ fits = true ∧ (s.bs.length : Int) + w ≤ 524288 ∧ s.field right fits w n = ⟨s.bs ++ bitsOf w.toNat (u64 n), 0⟩ := by
  unfold WS.field at h ⊢
  rw [if_neg (by simpa using h0)] at h ⊢
  cases right with
  | false => simp at h
  | true =>
    cases fits with
    | false => simp at h
    | true =>
      rw [if_neg (by simp), if_neg (by simp)] at h ⊢
      split at h
      · simp at h
      · rename_i h1
        rw [if_neg h1]
        exact ⟨rfl, rfl, by omega, by rw [h0]⟩
theorem wtext_inv {s : WS} {most : Int} {t : ByteArray} (h0 : s.err = 0) (h : (s.text most t).err = 0) :
    lim most = true ∧ (t.size : Int) ≤ most ∧ (s.bs.length : Int) + wd most + 8 * t.size ≤ 524288 ∧ s.text most t = ⟨s.bs ++ (bitsOf (wd most) t.size ++ textBits t), 0⟩ := by
  unfold WS.text at h ⊢
  rw [if_neg (by simpa using h0)] at h ⊢
  cases hl : lim most with
  | false => rw [hl] at h; simp at h
  | true =>
    rw [hl, if_neg (by simp)] at h
    rw [if_neg (by simp)]
    split at h
    · simp at h
    · rename_i h1
      rw [if_neg h1]
      exact ⟨rfl, by omega, by omega, by rw [h0, List.append_assoc]⟩

/-- A field that is written without an error lays some bits behind the others. -/
theorem write_ext {s : WS} {f : Fld} (h : (s.write f).err = 0) : s.err = 0 ∧ ∃ x, (s.write f).bs = s.bs ++ x := by
  have h0 : s.err = 0 := by
    refine Classical.byContradiction fun h1 => ?_
    have : s.write f = s := by
      unfold WS.write WS.unsigned WS.signed WS.flag WS.field WS.text
      simp [h1]
    rw [this] at h
    exact h1 h
  refine ⟨h0, ?_⟩
  unfold WS.write at h ⊢
  split
  · rename_i c; rw [if_pos c] at h; exact ⟨_, congrArg WS.bs (wfield_inv h0 h).2.2.2⟩
  · rename_i c; rw [if_neg c] at h
    split
    · rename_i c; rw [if_pos c] at h; exact ⟨_, congrArg WS.bs (wfield_inv h0 h).2.2.2⟩
    · rename_i c; rw [if_neg c] at h
      split
      · rename_i c; rw [if_pos c] at h; exact ⟨_, congrArg WS.bs (wfield_inv h0 h).2.2.2⟩
      · rename_i c; rw [if_neg c] at h
        split
        · rename_i c; rw [if_pos c] at h; exact ⟨_, congrArg WS.bs (wtext_inv h0 h).2.2.2⟩
        · exact ⟨[], by simp⟩

theorem IsStr.size {bs : List Bool} {s : ByteArray} (h : IsStr bs s) : s.size = (bs.length + 7) / 8 := by
  obtain ⟨d, _, hd, rfl⟩ := h
  rw [strOf_size, hd]
theorem seg_mid {pre mid tail : List Bool} {s : ByteArray} (h : IsStr (pre ++ mid ++ tail) s) : seg s pre.length mid.length = mid := by
  have hsz := h.size
  simp only [List.length_append] at hsz
  apply List.ext_getElem?
  intro i
  by_cases hi : i < mid.length
  · rw [seg_get hi, sbit_of h (by omega), List.getD_eq_getElem?_getD, List.getElem?_append_left (by simp; omega), List.getElem?_append_right (by omega), Nat.add_sub_cancel_left, List.getElem?_eq_getElem hi]
    rfl
  · rw [List.getElem?_eq_none (by rw [seg_length]; omega), List.getElem?_eq_none (by omega)]
theorem seg_two {s : ByteArray} {a n m : Nat} {x y : List Bool} (h : seg s a (n + m) = x ++ y) (hn : x.length = n) : seg s a n = x ∧ seg s (a + n) m = y := by
  rw [seg_append] at h
  exact List.append_inj h (by rw [seg_length, hn])

/-- A reader's field with enough bits left. -/
theorem rfield_ok {s : ByteArray} {a : Nat} {w : Int} (h0 : 0 ≤ w) (h : a + w.toNat ≤ 8 * s.size) : (⟨s, a, 0⟩ : RS).field true w = (valOf s a w.toNat, ⟨s, a + w.toNat, 0⟩) := by
  unfold RS.field
  rw [if_neg (by simp), if_neg (by simp), if_neg (by simp [RS.left]; omega)]

theorem u64_nat {n : Int} (h0 : 0 ≤ n) (h1 : n < 18446744073709551616) : u64 n = n.toNat := by unfold u64; omega
theorem pow63 {w : Int} (h : w ≤ 63) : (2 : Int) ^ w.toNat ≤ 9223372036854775808 := by
  have : (2 : Nat) ^ w.toNat ≤ 2 ^ 63 := Nat.pow_le_pow_right (by omega) (by omega)
  rw [pow_cast]; omega

/-- What is read where a field was written. -/
theorem write_read {ws : WS} {f : Fld} {s : ByteArray} {tail : List Bool} (h : (ws.write f).err = 0) (hs : IsStr ((ws.write f).bs ++ tail) s) (hk : 0 ≤ f.kind ∧ f.kind ≤ 3) :
    (⟨s, ws.bs.length, 0⟩ : RS).read f = (⟨f.kind, if f.kind = 2 then 0 else f.width, if f.kind = 3 then 0 else if f.kind = 2 then (if f.n ≠ 0 then 1 else 0) else f.n, if f.kind = 3 then f.s else ⟨#[]⟩⟩, ⟨s, (ws.write f).bs.length, 0⟩) := by
  have h0 := (write_ext h).1
  have hsz := hs.size
  simp only [List.length_append] at hsz
  by_cases k0 : f.kind = 0
  · have e : ws.write f = ws.unsigned f.width f.n := by simp [WS.write, k0]
    rw [e] at h hs hsz ⊢
    obtain ⟨r1, r2, r3, r4⟩ := wfield_inv h0 h
    rw [show ws.unsigned f.width f.n = _ from r4] at hs hsz ⊢
    simp only [decide_eq_true_eq] at r1 r2
    have hp := pow63 r1.2
    have hm := seg_mid hs
    rw [bitsOf_length] at hm
    have hv := val_seg hm
    have hn : u64 f.n = f.n.toNat := u64_nat r2.2.1 (by omega)
    have hlt : f.n.toNat < 2 ^ f.width.toNat := by have := r2.2.2; rw [pow_cast] at this; omega
    rw [hn, Nat.mod_eq_of_lt hlt] at hv
    simp only [List.length_append, bitsOf_length] at hsz ⊢
    have hf := rfield_ok (s := s) (a := ws.bs.length) (w := f.width) (by omega) (by omega)
    have hd : decide (1 ≤ f.width ∧ f.width ≤ 63) = true := by simpa using r1
    simp only [RS.read, k0, RS.unsigned, hd, hf, hv]
    simp; omega
  · by_cases k1 : f.kind = 1
    · have e : ws.write f = ws.signed f.width f.n := by simp [WS.write, k1]
      rw [e] at h hs hsz ⊢
      obtain ⟨r1, r2, r3, r4⟩ := wfield_inv h0 h
      rw [show ws.signed f.width f.n = _ from r4] at hs hsz ⊢
      simp only [decide_eq_true_eq] at r1 r2
      have hm := seg_mid hs
      rw [bitsOf_length] at hm
      have hv := val_seg hm
      simp only [List.length_append, bitsOf_length] at hsz ⊢
      have hf := rfield_ok (s := s) (a := ws.bs.length) (w := f.width) (by omega) (by omega)
      obtain ⟨m, hw⟩ : ∃ m : Nat, f.width = ((m + 1 : Nat) : Int) := ⟨(f.width - 1).toNat, by omega⟩
      have hd : decide (2 ≤ f.width ∧ f.width ≤ 63) = true := by simpa using r1
      have hsg : (⟨s, ws.bs.length, 0⟩ : RS).signed f.width = (f.n, ⟨s, ws.bs.length + f.width.toNat, 0⟩) := by
        have hmod := u64_mod f.n (k := m + 1) (by omega)
        have r3' := r2.2
        simp only [hw, Int.toNat_natCast, Nat.add_sub_cancel] at hf hv hd r3' ⊢
        have hb := signed_back r3'.1 r3'.2
        simp only [RS.signed, hd, hf, hv, Int.toNat_natCast, Nat.add_sub_cancel, true_and]
        rw [← hmod] at hb
        have hc : (2 : Int) ^ m ≤ ((u64 f.n % 2 ^ (m + 1) : Nat) : Int) ↔ 2 ^ m ≤ u64 f.n % 2 ^ (m + 1) := by rw [pow_cast]; omega
        by_cases hh : 2 ^ m ≤ u64 f.n % 2 ^ (m + 1)
        · rw [if_pos (hc.2 hh)] at hb; rw [if_pos hh, hb]
        · rw [if_neg (fun x => hh (hc.1 x))] at hb; rw [if_neg hh, hb]
      simp only [RS.read, k1, hsg]
      simp
    · by_cases k2 : f.kind = 2
      · have e : ws.write f = ws.flag (decide (f.n ≠ 0)) := by simp [WS.write, k2]
        rw [e] at h hs hsz ⊢
        obtain ⟨r1, r2, r3, r4⟩ := wfield_inv h0 h
        rw [show ws.flag (decide (f.n ≠ 0)) = _ from r4] at hs hsz ⊢
        have hm := seg_mid hs
        rw [bitsOf_length] at hm
        have hv := val_seg hm
        simp only [List.length_append, bitsOf_length] at hsz ⊢
        have hf := rfield_ok (s := s) (a := ws.bs.length) (w := 1) (by omega) (by simp only [show (1 : Int).toNat = 1 from rfl] at hsz ⊢; omega)
        simp only [show (1 : Int).toNat = 1 from rfl] at hv hf hsz ⊢
        have hfl : (⟨s, ws.bs.length, 0⟩ : RS).flag = (decide (f.n ≠ 0), ⟨s, ws.bs.length + 1, 0⟩) := by
          simp only [RS.flag, hf, hv]
          by_cases hn : f.n = 0
          · simp [hn, u64]
          · simp [hn, u64]
        simp only [RS.read, k2, hfl]
        simp
      · have k3 : f.kind = 3 := by omega
        have e : ws.write f = ws.text f.width f.s := by simp [WS.write, k3]
        rw [e] at h hs hsz ⊢
        obtain ⟨r1, r2, r3, r4⟩ := wtext_inv h0 h
        rw [r4] at hs hsz ⊢
        have hm := seg_mid hs
        rw [List.length_append, bitsOf_length, textBits_length] at hm
        obtain ⟨hm1, hm2⟩ := seg_two hm (bitsOf_length _ _)
        have hv := val_seg hm1
        simp only [List.length_append, bitsOf_length, textBits_length] at hsz ⊢
        have hf := rfield_ok (s := s) (a := ws.bs.length) (w := (wd f.width : Int)) (by omega) (by simp only [Int.toNat_natCast]; omega)
        simp only [Int.toNat_natCast] at hf
        have hl : 1 ≤ f.width ∧ f.width ≤ 4095 := by simpa [lim] using r1
        have hlt : f.s.size < 2 ^ wd f.width := by
          have h2 := @blen_le f.width.toNat (wd f.width)
          have h3 : f.width.toNat < 2 ^ wd f.width := h2.1 (by unfold wd; rw [if_neg (by omega)]; omega)
          omega
        rw [Nat.mod_eq_of_lt hlt] at hv
        have ht := read_text hm2
        have hte : (⟨s, ws.bs.length, 0⟩ : RS).text f.width = (f.s, ⟨s, ws.bs.length + wd f.width + 8 * f.s.size, 0⟩) := by
          simp only [RS.text, r1, hf, hv]
          rw [if_neg (by simp), if_neg (by omega), if_neg (by simp [RS.left]; omega), ht]
        simp only [RS.read, k3, hte]
        simp [Nat.add_assoc]

end Go.Proofs.Ytlbhbjaimcinbaa.AI

/- Fields that are read are written with the same bits. -/
set_option linter.unusedSimpArgs false
namespace Go.Proofs.Ytlbhbjaimcinbaa.AI
open Go

theorem wfield_ok {bs : List Bool} {right fits : Bool} {w n : Int} (h1 : right = true) (h2 : fits = true) (h : (bs.length : Int) + w ≤ 524288) : (⟨bs, 0⟩ : WS).field right fits w n = ⟨bs ++ bitsOf w.toNat (u64 n), 0⟩ := by
  subst h1 h2
  unfold WS.field
  rw [if_neg (by simp), if_neg (by simp), if_neg (by simp), if_neg (by simp only; omega)]

theorem rtext_err0 {r : RS} {most : Int} (h : (r.text most).2.err = 0) : lim most = true ∧ r.err = 0 ∧ r.at_ + wd most + 8 * valOf r.s r.at_ (wd most) ≤ 8 * r.s.size ∧ ((valOf r.s r.at_ (wd most) : Nat) : Int) ≤ most ∧
    r.text most = (strOf (readL r.s (r.at_ + wd most) (valOf r.s r.at_ (wd most))), { r with at_ := r.at_ + wd most + 8 * valOf r.s r.at_ (wd most) }) := by
  unfold RS.text at h ⊢
  simp only at h ⊢
  split at h
  · rename_i h1; exact absurd h h1
  · rename_i h1
    obtain ⟨r1, r2, r3, r4⟩ := field_err0 (r := r) (right := lim most) (w := (wd most : Int)) (by simpa using h1)
    rw [r3] at h h1 ⊢
    simp only [Int.toNat_natCast] at h h1 ⊢
    rw [if_neg h1]
    split at h
    · simp at h
    · rename_i h2
      rw [if_neg h2]
      split at h
      · simp at h
      · rename_i h3
        rw [if_neg h3]
        simp only [RS.left, r2, if_true] at h3
        exact ⟨r1, r2, by omega, by omega, rfl⟩

theorem seg_pre (s : ByteArray) (a n : Nat) : seg s 0 a ++ seg s a n = seg s 0 (a + n) := by
  rw [seg_append, Nat.zero_add]

/-- What was read so far is written once more. -/
theorem read_write {r : RS} {f : Fld} (hs : r.s.size ≤ 300) (ho : r.Ok) (h : (r.read f).2.err = 0) :
    r.err = 0 ∧ (r.read f).2.s = r.s ∧ (⟨seg r.s 0 r.at_, 0⟩ : WS).write (r.read f).1 = ⟨seg r.s 0 (r.read f).2.at_, 0⟩ := by
  have hat := ho.at_le
  have hl : (seg r.s 0 r.at_).length = r.at_ := seg_length _ _ _
  by_cases k0 : f.kind = 0
  · have e : r.read f = ({ f with n := (r.unsigned f.width).1, s := ⟨#[]⟩ }, (r.unsigned f.width).2) := by simp [RS.read, k0]
    rw [e] at h ⊢
    obtain ⟨r1, r2, r3, r4⟩ := field_err0 (r := r) (right := decide (1 ≤ f.width ∧ f.width ≤ 63)) (w := f.width) h
    have hu : r.unsigned f.width = (((valOf r.s r.at_ f.width.toNat : Nat) : Int), { r with at_ := r.at_ + f.width.toNat }) := by simp only [RS.unsigned, r3]
    rw [hu]
    simp only [decide_eq_true_eq] at r1
    have hv := valOf_lt r.s r.at_ f.width.toNat
    have hp := pow63 r1.2
    rw [pow_cast] at hp
    refine ⟨r2, rfl, ?_⟩
    simp only [WS.write, k0, if_true]
    unfold WS.unsigned
    rw [wfield_ok (by simpa using r1) (by simp only [decide_eq_true_eq]; refine ⟨r1, by omega, ?_⟩; rw [pow_cast]; omega) (by rw [hl]; omega), u64_nat (by omega) (by omega)]
    simp only [Int.toNat_natCast, bits_val, seg_pre]
  · by_cases k1 : f.kind = 1
    · have e : r.read f = ({ f with n := (r.signed f.width).1, s := ⟨#[]⟩ }, (r.signed f.width).2) := by simp [RS.read, k1]
      rw [e] at h ⊢
      obtain ⟨r1, r2, r3, r4⟩ := field_err0 (r := r) (right := decide (2 ≤ f.width ∧ f.width ≤ 63)) (w := f.width) h
      simp only [decide_eq_true_eq] at r1
      obtain ⟨m, hw⟩ : ∃ m : Nat, f.width = ((m + 1 : Nat) : Int) := ⟨(f.width - 1).toNat, by omega⟩
      have hv := valOf_lt r.s r.at_ (m + 1)
      have hp : (2 : Nat) ^ (m + 1) = 2 * 2 ^ m := by rw [Nat.pow_succ]; omega
      have hm2 : (2 : Nat) ^ (m + 1) ≤ 2 ^ 63 := Nat.pow_le_pow_right (by omega) (by omega)
      have hm0 := Nat.two_pow_pos m
      have h63 : (2 : Nat) ^ 63 = 9223372036854775808 := by decide
      have hu : r.signed f.width = (if 2 ^ m ≤ valOf r.s r.at_ (m + 1) then ((valOf r.s r.at_ (m + 1) : Nat) : Int) - 2 ^ (m + 1) else ((valOf r.s r.at_ (m + 1) : Nat) : Int), { r with at_ := r.at_ + (m + 1) }) := by
        simp only [hw, Int.toNat_natCast] at r3
        simp only [RS.signed, hw, r3, r2, true_and, Int.toNat_natCast, Nat.add_sub_cancel]
      rw [hu]
      refine ⟨r2, rfl, ?_⟩
      simp only [WS.write, k1, if_true]
      rw [if_neg (by omega)]
      unfold WS.signed
      have hmod : (u64 (if 2 ^ m ≤ valOf r.s r.at_ (m + 1) then ((valOf r.s r.at_ (m + 1) : Nat) : Int) - 2 ^ (m + 1) else ((valOf r.s r.at_ (m + 1) : Nat) : Int))) % 2 ^ (m + 1) = valOf r.s r.at_ (m + 1) % 2 ^ (m + 1) := by
        have h1 := u64_mod (if 2 ^ m ≤ valOf r.s r.at_ (m + 1) then ((valOf r.s r.at_ (m + 1) : Nat) : Int) - 2 ^ (m + 1) else ((valOf r.s r.at_ (m + 1) : Nat) : Int)) (k := m + 1) (by omega)
        have h2 : (if 2 ^ m ≤ valOf r.s r.at_ (m + 1) then ((valOf r.s r.at_ (m + 1) : Nat) : Int) - 2 ^ (m + 1) else ((valOf r.s r.at_ (m + 1) : Nat) : Int)) % 2 ^ (m + 1) = ((valOf r.s r.at_ (m + 1) : Nat) : Int) % 2 ^ (m + 1) := by
          split
          · rw [Int.sub_emod_right]
          · rfl
        rw [h2] at h1
        rw [pow_cast, ← Int.natCast_emod] at h1
        exact Int.ofNat.inj h1
      have hfit : -2 ^ m ≤ (if 2 ^ m ≤ valOf r.s r.at_ (m + 1) then ((valOf r.s r.at_ (m + 1) : Nat) : Int) - 2 ^ (m + 1) else ((valOf r.s r.at_ (m + 1) : Nat) : Int)) ∧ (if 2 ^ m ≤ valOf r.s r.at_ (m + 1) then ((valOf r.s r.at_ (m + 1) : Nat) : Int) - 2 ^ (m + 1) else ((valOf r.s r.at_ (m + 1) : Nat) : Int)) < 2 ^ m := by
        rw [pow_cast, pow_cast]
        split <;> constructor <;> omega
      rw [hw] at r1 ⊢
      rw [wfield_ok (by simpa using r1) (by simp only [decide_eq_true_eq, Int.toNat_natCast, Nat.add_sub_cancel]; exact ⟨r1, hfit⟩) (by rw [hl]; omega)]
      simp only [Int.toNat_natCast]
      rw [bitsOf_mod _ _ _ hmod, bits_val, seg_pre]
    · by_cases k2 : f.kind = 2
      · have e : r.read f = (⟨f.kind, 0, if r.flag.1 then 1 else 0, ⟨#[]⟩⟩, r.flag.2) := by simp [RS.read, k2]
        rw [e] at h ⊢
        obtain ⟨r1, r2, r3, r4⟩ := field_err0 (r := r) (right := true) (w := 1) h
        have hu : r.flag = (decide (valOf r.s r.at_ 1 = 1), { r with at_ := r.at_ + 1 }) := by simp only [RS.flag, r3]; rfl
        rw [hu]
        refine ⟨r2, rfl, ?_⟩
        have hv := valOf_lt r.s r.at_ 1
        simp only [WS.write, k2]
        rw [if_neg (by omega), if_neg (by omega), if_pos True.intro]
        unfold WS.flag
        rw [wfield_ok rfl rfl (by rw [hl]; omega)]
        have : u64 (if (decide ((if decide (valOf r.s r.at_ 1 = 1) = true then (1 : Int) else 0) ≠ 0)) = true then 1 else 0) = valOf r.s r.at_ 1 := by
          rcases (by omega : valOf r.s r.at_ 1 = 0 ∨ valOf r.s r.at_ 1 = 1) with h | h <;> rw [h] <;> decide
        rw [this]
        have := bits_val r.s r.at_ 1
        simp only [show (1 : Int).toNat = 1 from rfl, this, seg_pre]
      · by_cases k3 : f.kind = 3
        · have e : r.read f = ({ f with n := 0, s := (r.text f.width).1 }, (r.text f.width).2) := by simp [RS.read, k3]
          rw [e] at h ⊢
          obtain ⟨r1, r2, r3, r4, r5⟩ := rtext_err0 h
          rw [r5]
          refine ⟨r2, rfl, ?_⟩
          simp only [WS.write, k3]
          rw [if_neg (by omega), if_neg (by omega), if_neg (by omega), if_pos True.intro]
          unfold WS.text
          simp only [r1, strOf_size, readL_length]
          rw [if_neg (by simp), if_neg (by simp), if_neg (by rw [hl]; omega), bits_val, textBits_read, seg_pre, seg_pre]
        · have e : r.read f = (f, r) := by simp [RS.read, k0, k1, k2, k3]
          rw [e] at h ⊢
          refine ⟨h, rfl, ?_⟩
          simp [WS.write, k0, k1, k2, k3]

theorem valOf_zero (s : ByteArray) (a : Nat) : ∀ w, valOf s a w = 0 → ∀ i, i < w → sbit s (a + i) = false := by
  intro w h i hi
  have := valOf_testBit s a w i hi
  rw [h] at this
  simpa using this.symm

/-- A string whose rest is zeros is the one that its first bits make. -/
theorem isStr_seg {s : ByteArray} {a : Nat} (h1 : a ≤ 8 * s.size) (h2 : 8 * s.size < a + 8) (h3 : valOf s a (8 * s.size - a) = 0) : IsStr (seg s 0 a) s := by
  refine ⟨nums s, ⟨nums_small s, fun j x hx k hk => ?_⟩, by rw [nums_length, seg_length]; omega, (strOf_nums s).symm⟩
  have hj : j < s.size := by have := (List.getElem?_eq_some_iff.1 hx).1; rwa [nums_length] at this
  have hb : sbit s (8 * j + k) = x.testBit (7 - k) := by
    obtain ⟨b, b1, b2⟩ := byte_get s j hj
    have : x = b.toNat := by
      unfold nums at hx
      rw [List.getElem?_map, b2] at hx
      simpa using hx.symm
    unfold sbit
    rw [show (8 * j + k) / 8 = j by omega, show (8 * j + k) % 8 = k by omega, b1, this]
    rfl
  rw [← hb, List.getD_eq_getElem?_getD]
  by_cases hlt : 8 * j + k < a
  · rw [seg_get hlt, Nat.zero_add]; rfl
  · rw [List.getElem?_eq_none (by rw [seg_length]; omega)]
    have := valOf_zero s a _ h3 (8 * j + k - a) (by omega)
    rw [show a + (8 * j + k - a) = 8 * j + k by omega] at this
    rw [this]; rfl

end Go.Proofs.Ytlbhbjaimcinbaa.AI

/- BitioBack in the interpreter. -/
set_option linter.unusedSimpArgs false
namespace Go.Proofs.Ytlbhbjaimcinbaa.AI
open Go

/-- A writer behind the first fields. -/
def wsAt (l : List Fld) (k : Nat) : WS := (l.take k).foldl WS.write ⟨[], 0⟩
theorem wsAt_zero (l : List Fld) : wsAt l 0 = ⟨[], 0⟩ := rfl
theorem wsAt_succ {l : List Fld} {k : Nat} {f : Fld} (h : l[k]? = some f) : wsAt l (k + 1) = (wsAt l k).write f := by
  unfold wsAt; rw [List.take_add_one, h]; simp [List.foldl_append]
theorem wfield_len {s : WS} {right fits : Bool} {w n : Int} (h : s.bs.length ≤ 524288) : (s.field right fits w n).bs.length ≤ 524288 := by
  unfold WS.field
  split
  · exact h
  · split
    · exact h
    · split
      · exact h
      · split
        · exact h
        · simp only [List.length_append, bitsOf_length]; omega
theorem write_len {s : WS} {f : Fld} (h : s.bs.length ≤ 524288) : (s.write f).bs.length ≤ 524288 := by
  unfold WS.write
  split
  · exact wfield_len h
  · split
    · exact wfield_len h
    · split
      · exact wfield_len h
      · split
        · unfold WS.text
          split
          · exact h
          · split
            · exact h
            · split
              · exact h
              · simp only [List.length_append, bitsOf_length, textBits_length]; omega
        · exact h
theorem wsAt_len (l : List Fld) : ∀ k, (wsAt l k).bs.length ≤ 524288 := by
  intro k
  induction k with
  | zero => simp [wsAt_zero]
  | succ k ih =>
    cases h : l[k]? with
    | none => unfold wsAt at ih ⊢; rw [List.take_add_one, h]; simpa using ih
    | some f => rw [wsAt_succ h]; exact write_len ih
theorem wsAt_ext {l : List Fld} {k : Nat} : ∀ {m}, k ≤ m → m ≤ l.length → (wsAt l m).err = 0 → (wsAt l k).err = 0 ∧ ∃ x, (wsAt l m).bs = (wsAt l k).bs ++ x := by
  intro m
  induction m with
  | zero => intro h _ h0; obtain rfl : k = 0 := by omega
            exact ⟨h0, [], by simp⟩
  | succ m ih =>
    intro h hm h0
    by_cases hk : k = m + 1
    · subst hk; exact ⟨h0, [], by simp⟩
    · obtain ⟨f, hf⟩ : ∃ f, l[m]? = some f := ⟨_, List.getElem?_eq_getElem (by omega)⟩
      rw [wsAt_succ hf] at h0 ⊢
      obtain ⟨e1, x, e2⟩ := write_ext h0
      obtain ⟨e3, y, e4⟩ := ih (by omega) (by omega) e1
      exact ⟨e3, y ++ x, by rw [e2, e4, List.append_assoc]⟩
theorem close_end {bs : List Bool} {s : ByteArray} (h : IsStr bs s) : (⟨s, bs.length, 0⟩ : RS).close = 0 := by
  have hsz := h.size
  have hz := valOf_bits (s := s) (a := bs.length) (w := 8 * s.size - bs.length) (n := 0) (fun i hi => by
    rw [sbit_of h (by omega), List.getD_eq_getElem?_getD, List.getElem?_eq_none (by omega)]; simp) _ (Nat.le_refl _)
  have hl : (8 * (s.size : Int) - (bs.length : Int)).toNat = 8 * s.size - bs.length := by omega
  simp only [RS.close, RS.left, if_true, hl]
  rw [if_neg (by simp), if_neg (by omega), if_neg (by rw [hz]; simp)]

theorem pair_toArray (a b c d : Value) : [a, b, c, d].toArray = #[a, b, c, d] := rfl

set_option maxHeartbeats 2000000 in
theorem back {H : Heap} {v : Value} {l : List Fld} (hla : LA H v l) (hok : ∀ f ∈ l, Is64 f.kind ∧ Is64 f.width ∧ Is64 f.n) : Op1 (AC tbl 8 [v] H) fun r _ => r = .bool true := by
  apply AC_wp (F := F8) rfl (by simp [F8]) (.inl rfl)
  simp only [F8, ↓RW_seq, ↓AW_ret, ↓AW_skip, ↓AW_exit, ↓AW_block, ↓RW_cond, ↓RW_reg, ↓RW_regd, ↓RO_op, ↓RO_t, ↓RO_f, ↓RO_nt, ↓RO_nf, ↓AO_nil, ↓RD_op, ↓RD_t, ↓RD_f, ↓RD_nt, ↓RD_fe, ↓RD_nte, ↓RD_nf, ↓AOD_nil, CDops_eff, CDops_no, CDops_1, CDops_2, Again_nil, Again_cons, Same1_int, Same1_bool, Same1_str, Same1_ptr, Same1_slice, Same1_nil, CSeq_ap, CReg_ap, COps_ap, Then_normal, Then_ret, Then_exit, InBlock_normal, InBlock_ret, InBlock_self, InBlock_exit, Ends_ret, Ends_normal, ares, tup, finO_some, fin_same, fin_false, argsE, dval, aop, ev, evs, evo, evp, fillL, addrOf, intOf?, lk_put, lk_none, lk_cons, lk_nil, keep_nil, keep_cons, Op1_some, Option.map_some, Option.bind_some, reduceIte, Nat.reduceEqDiff, binV_lss, binV_leq, binV_gtr, binV_geq, binV_eql, binV_neq, binV_add, binV_sub, binV_mul, un_not, CondA_false, CondA_true, Bool.not_true, Bool.not_false, reduceCtorEq, decide_true, decide_false, Nat.add_zero, Nat.zero_add, Nat.reduceAdd, Nat.reduceMul, Bool.bne_false, Bool.bne_true, eqPtr, Option.isNone_some, Option.isNone_none, List.getElem?_cons_zero, List.getElem?_cons_succ, Option.isSome_none, Option.isSome_some , hload, hstore, List.length_cons, List.length_nil, Nat.reduceAdd, Nat.reduceLeDiff, decide_true, List.all_cons, List.all_nil, one, Bool.and_true, Bool.true_and, Bool.and_self, splice, List.set_cons_zero, List.set_cons_succ, List.getElem?_cons_zero, List.getElem?_cons_succ, vc_int, vc_slice, vc_str, vc_bool, vc_int', vc_slice', vc_str', vc_bool', List.length_set, List.length_append, Nat.lt_irrefl, Nat.lt_add_one, and_self, true_and, and_true, lenV, cellsOfSlice, Nat.le_refl, if_true , awake_any]
  refine few_spec hla fun H1 hf1 => ?_
  cases hfew : fewB l with
  | false => simp only [↓RW_seq, ↓AW_ret, ↓AW_skip, ↓AW_exit, ↓AW_block, ↓RW_cond, ↓RW_reg, ↓RW_regd, ↓RO_op, ↓RO_t, ↓RO_f, ↓RO_nt, ↓RO_nf, ↓AO_nil, ↓RD_op, ↓RD_t, ↓RD_f, ↓RD_nt, ↓RD_fe, ↓RD_nte, ↓RD_nf, ↓AOD_nil, CDops_eff, CDops_no, CDops_1, CDops_2, Again_nil, Again_cons, Same1_int, Same1_bool, Same1_str, Same1_ptr, Same1_slice, Same1_nil, CSeq_ap, CReg_ap, COps_ap, Then_normal, Then_ret, Then_exit, InBlock_normal, InBlock_ret, InBlock_self, InBlock_exit, Ends_ret, Ends_normal, ares, tup, finO_some, fin_same, fin_false, argsE, dval, aop, ev, evs, evo, evp, fillL, addrOf, intOf?, lk_put, lk_none, lk_cons, lk_nil, keep_nil, keep_cons, Op1_some, Option.map_some, Option.bind_some, reduceIte, Nat.reduceEqDiff, binV_lss, binV_leq, binV_gtr, binV_geq, binV_eql, binV_neq, binV_add, binV_sub, binV_mul, un_not, CondA_false, CondA_true, Bool.not_true, Bool.not_false, reduceCtorEq, decide_true, decide_false, Nat.add_zero, Nat.zero_add, Nat.reduceAdd, Nat.reduceMul, Bool.bne_false, Bool.bne_true, eqPtr, Option.isNone_some, Option.isNone_none, List.getElem?_cons_zero, List.getElem?_cons_succ, Option.isSome_none, Option.isSome_some , hload, hstore, List.length_cons, List.length_nil, Nat.reduceAdd, Nat.reduceLeDiff, decide_true, List.all_cons, List.all_nil, one, Bool.and_true, Bool.true_and, Bool.and_self, splice, List.set_cons_zero, List.set_cons_succ, List.getElem?_cons_zero, List.getElem?_cons_succ, vc_int, vc_slice, vc_str, vc_bool, vc_int', vc_slice', vc_str', vc_bool', List.length_set, List.length_append, Nat.lt_irrefl, Nat.lt_add_one, and_self, true_and, and_true, lenV, cellsOfSlice, Nat.le_refl, if_true ]
  | true =>
    obtain ⟨b, z, rfl, hb⟩ := hla.lb
    have hsh : ∀ f ∈ l, f.s.size ≤ 200 := by
      simp only [fewB, Bool.and_eq_true, List.all_eq_true, decide_eq_true_eq] at hfew
      exact hfew.2
    have hl40 : l.length ≤ 40 := by
      simp only [fewB, Bool.and_eq_true, List.all_eq_true, decide_eq_true_eq] at hfew
      exact hfew.1
    have hp0 : H.length ≤ H1.length := hf1.1
    have facts : ∀ j f, j + 1 ≤ l.length → l[l.length - (j + 1)]? = some f → ((l.length - (j + 1) : Nat) : Int) < (l.length : Int) ∧ ((0 : Int) ≤ ((l.length - (j + 1) : Nat) : Int) ∧ ((l.length - (j + 1) : Nat) : Int) < (l.length : Int)) ∧
        (l.length - (j + 1)) * 4 + 4 ≤ (flat l).length ∧ List.take 4 (List.drop ((l.length - (j + 1)) * 4) (flat l)) = f.cells ∧ IntKind.i64.wrap (((l.length - (j + 1) : Nat) : Int) + 1) = ((l.length - j : Nat) : Int) ∧
        f.cells.toArray = #[.int .i64 f.kind, .int .i64 f.width, .int .i64 f.n, .string f.s] ∧ f.Ok := by
      intro j f hj hfi
      have hfm := List.mem_of_getElem? hfi
      refine ⟨by omega, by omega, by rw [flat_length]; omega, flat_get l _ f hfi, by rw [wrap_i64 (by omega) (by omega)]; omega, rfl, (hok f hfm).1, (hok f hfm).2.1, (hok f hfm).2.2, Nat.le_trans (hsh f hfm) (by decide)⟩
    simp only [↓RW_seq, ↓AW_ret, ↓AW_skip, ↓AW_exit, ↓AW_block, ↓RW_cond, ↓RW_reg, ↓RW_regd, ↓RO_op, ↓RO_t, ↓RO_f, ↓RO_nt, ↓RO_nf, ↓AO_nil, ↓RD_op, ↓RD_t, ↓RD_f, ↓RD_nt, ↓RD_fe, ↓RD_nte, ↓RD_nf, ↓AOD_nil, CDops_eff, CDops_no, CDops_1, CDops_2, Again_nil, Again_cons, Same1_int, Same1_bool, Same1_str, Same1_ptr, Same1_slice, Same1_nil, CSeq_ap, CReg_ap, COps_ap, Then_normal, Then_ret, Then_exit, InBlock_normal, InBlock_ret, InBlock_self, InBlock_exit, Ends_ret, Ends_normal, ares, tup, finO_some, fin_same, fin_false, argsE, dval, aop, ev, evs, evo, evp, fillL, addrOf, intOf?, lk_put, lk_none, lk_cons, lk_nil, keep_nil, keep_cons, Op1_some, Option.map_some, Option.bind_some, reduceIte, Nat.reduceEqDiff, binV_lss, binV_leq, binV_gtr, binV_geq, binV_eql, binV_neq, binV_add, binV_sub, binV_mul, un_not, CondA_false, CondA_true, Bool.not_true, Bool.not_false, reduceCtorEq, decide_true, decide_false, Nat.add_zero, Nat.zero_add, Nat.reduceAdd, Nat.reduceMul, Bool.bne_false, Bool.bne_true, eqPtr, Option.isNone_some, Option.isNone_none, List.getElem?_cons_zero, List.getElem?_cons_succ, Option.isSome_none, Option.isSome_some , hload, hstore, List.length_cons, List.length_nil, Nat.reduceAdd, Nat.reduceLeDiff, decide_true, List.all_cons, List.all_nil, one, Bool.and_true, Bool.true_and, Bool.and_self, splice, List.set_cons_zero, List.set_cons_succ, List.getElem?_cons_zero, List.getElem?_cons_succ, vc_int, vc_slice, vc_str, vc_bool, vc_int', vc_slice', vc_str', vc_bool', List.length_set, List.length_append, Nat.lt_irrefl, Nat.lt_add_one, and_self, true_and, and_true, lenV, cellsOfSlice, Nat.le_refl, if_true , newWriter_eq]
    apply AW_loop_inv (fun j e H2 => j ≤ l.length ∧ e = [(0, .slice b l.length z), (3, .pointer (some ⟨H1.length, 0, none⟩)), (20, .slice b l.length z), (21, .int .i64 (l.length : Int)), (22, .int .i64 ((l.length - j : Nat) : Int))] ∧
      ∃ o, WSt H2 H1.length o (wsAt l (l.length - j)).bs (wsAt l (l.length - j)).err ∧ (∀ q, o = some q → H1.length < q) ∧ LB H2 b z l H.length) _ l.length
    · refine ⟨Nat.le_refl _, by rw [Nat.sub_self]; rfl, none, by rw [Nat.sub_self]; exact newWriter_st H1, by simp, ?_⟩
      exact (hb.frame hf1 (by simp)).frame (O := []) ((Frm.refl _ _).push _) (by simp)
    · rintro j e H2 ⟨hj, rfl, o, hw, ho, hlb⟩
      cases j with
      | succ j =>
        obtain ⟨f, hfi⟩ : ∃ f, l[l.length - (j + 1)]? = some f := ⟨_, List.getElem?_eq_getElem (by omega)⟩
        obtain ⟨q, rfl, rfl, hqN, hq1⟩ := hlb _ f hfi
        obtain ⟨g0, g1, g2, g3, g4, g5, hfo⟩ := facts j f hj hfi
        simp only [↓RW_seq, ↓AW_ret, ↓AW_skip, ↓AW_exit, ↓AW_block, ↓RW_cond, ↓RW_reg, ↓RW_regd, ↓RO_op, ↓RO_t, ↓RO_f, ↓RO_nt, ↓RO_nf, ↓AO_nil, ↓RD_op, ↓RD_t, ↓RD_f, ↓RD_nt, ↓RD_fe, ↓RD_nte, ↓RD_nf, ↓AOD_nil, CDops_eff, CDops_no, CDops_1, CDops_2, Again_nil, Again_cons, Same1_int, Same1_bool, Same1_str, Same1_ptr, Same1_slice, Same1_nil, CSeq_ap, CReg_ap, COps_ap, Then_normal, Then_ret, Then_exit, InBlock_normal, InBlock_ret, InBlock_self, InBlock_exit, Ends_ret, Ends_normal, ares, tup, finO_some, fin_same, fin_false, argsE, dval, aop, ev, evs, evo, evp, fillL, addrOf, intOf?, lk_put, lk_none, lk_cons, lk_nil, keep_nil, keep_cons, Op1_some, Option.map_some, Option.bind_some, reduceIte, Nat.reduceEqDiff, binV_lss, binV_leq, binV_gtr, binV_geq, binV_eql, binV_neq, binV_add, binV_sub, binV_mul, un_not, CondA_false, CondA_true, Bool.not_true, Bool.not_false, reduceCtorEq, decide_true, decide_false, Nat.add_zero, Nat.zero_add, Nat.reduceAdd, Nat.reduceMul, Bool.bne_false, Bool.bne_true, eqPtr, Option.isNone_some, Option.isNone_none, List.getElem?_cons_zero, List.getElem?_cons_succ, Option.isSome_none, Option.isSome_some , hload, hstore, List.length_cons, List.length_nil, Nat.reduceAdd, Nat.reduceLeDiff, decide_true, List.all_cons, List.all_nil, one, Bool.and_true, Bool.true_and, Bool.and_self, splice, List.set_cons_zero, List.set_cons_succ, List.getElem?_cons_zero, List.getElem?_cons_succ, vc_int, vc_slice, vc_str, vc_bool, vc_int', vc_slice', vc_str', vc_bool', List.length_set, List.length_append, Nat.lt_irrefl, Nat.lt_add_one, and_self, true_and, and_true, lenV, cellsOfSlice, Nat.le_refl, if_true , g0, g1, Int.toNat_natCast, hq1, g2, g3, g5, vc_agg', size4, hget_append_self, set_last, take4, list4]
        have hwl := hget_lt hw.ex.choose_spec.1.blk
        refine write_spec (f := f) (hw.push _) (wsAt_len l _) hfo fun H3 o3 k1 k2 k3 => ?_
        simp only [↓RW_seq, ↓AW_ret, ↓AW_skip, ↓AW_exit, ↓AW_block, ↓RW_cond, ↓RW_reg, ↓RW_regd, ↓RO_op, ↓RO_t, ↓RO_f, ↓RO_nt, ↓RO_nf, ↓AO_nil, ↓RD_op, ↓RD_t, ↓RD_f, ↓RD_nt, ↓RD_fe, ↓RD_nte, ↓RD_nf, ↓AOD_nil, CDops_eff, CDops_no, CDops_1, CDops_2, Again_nil, Again_cons, Same1_int, Same1_bool, Same1_str, Same1_ptr, Same1_slice, Same1_nil, CSeq_ap, CReg_ap, COps_ap, Then_normal, Then_ret, Then_exit, InBlock_normal, InBlock_ret, InBlock_self, InBlock_exit, Ends_ret, Ends_normal, ares, tup, finO_some, fin_same, fin_false, argsE, dval, aop, ev, evs, evo, evp, fillL, addrOf, intOf?, lk_put, lk_none, lk_cons, lk_nil, keep_nil, keep_cons, Op1_some, Option.map_some, Option.bind_some, reduceIte, Nat.reduceEqDiff, binV_lss, binV_leq, binV_gtr, binV_geq, binV_eql, binV_neq, binV_add, binV_sub, binV_mul, un_not, CondA_false, CondA_true, Bool.not_true, Bool.not_false, reduceCtorEq, decide_true, decide_false, Nat.add_zero, Nat.zero_add, Nat.reduceAdd, Nat.reduceMul, Bool.bne_false, Bool.bne_true, eqPtr, Option.isNone_some, Option.isNone_none, List.getElem?_cons_zero, List.getElem?_cons_succ, Option.isSome_none, Option.isSome_some , hload, hstore, List.length_cons, List.length_nil, Nat.reduceAdd, Nat.reduceLeDiff, decide_true, List.all_cons, List.all_nil, one, Bool.and_true, Bool.true_and, Bool.and_self, splice, List.set_cons_zero, List.set_cons_succ, List.getElem?_cons_zero, List.getElem?_cons_succ, vc_int, vc_slice, vc_str, vc_bool, vc_int', vc_slice', vc_str', vc_bool', List.length_set, List.length_append, Nat.lt_irrefl, Nat.lt_add_one, and_self, true_and, and_true, lenV, cellsOfSlice, Nat.le_refl, if_true , g4]
        refine ⟨j, by omega, by omega, rfl, o3, ?_, fun q3 hq3 => ?_, (hlb.frame (O := []) ((Frm.refl _ _).push _) (by simp)).frame k2 fun i hi => ?_⟩
        · rw [show l.length - j = l.length - (j + 1) + 1 by omega, wsAt_succ hfi]; exact k1
        · rcases k3 q3 hq3 with h | h
          · exact ho q3 h
          · simp at h; omega
        · rcases List.mem_cons.1 hi with rfl | hi
          · omega
          · have := ho i (by simpa [Option.mem_toList] using hi); omega
      | zero =>
        have g0 : ¬ (l.length : Int) < (l.length : Int) := by omega
        simp only [Nat.sub_zero] at hw
        obtain ⟨s, hs, hbytes⟩ := bytes_spec hw
        have hlen := wsAt_len l l.length
        by_cases herr : (wsAt l l.length).err = 0
        · rw [herr] at hbytes hw
          have hsz := hs.size
          have w1 : IntKind.i64.wrap (((wsAt l l.length).bs.length : Int) + 7) = (((wsAt l l.length).bs.length + 7 : Nat) : Int) := by rw [wrap_i64 (by omega) (by omega)]; rfl
          have w2 : (s.size : Int) = (((((wsAt l l.length).bs.length + 7) / 8 : Nat)) : Int) := by omega
          have hnr : newR s = ⟨s, 0, 0⟩ := by unfold newR; rw [if_neg (by omega)]
          simp only [↓RW_seq, ↓AW_ret, ↓AW_skip, ↓AW_exit, ↓AW_block, ↓RW_cond, ↓RW_reg, ↓RW_regd, ↓RO_op, ↓RO_t, ↓RO_f, ↓RO_nt, ↓RO_nf, ↓AO_nil, ↓RD_op, ↓RD_t, ↓RD_f, ↓RD_nt, ↓RD_fe, ↓RD_nte, ↓RD_nf, ↓AOD_nil, CDops_eff, CDops_no, CDops_1, CDops_2, Again_nil, Again_cons, Same1_int, Same1_bool, Same1_str, Same1_ptr, Same1_slice, Same1_nil, CSeq_ap, CReg_ap, COps_ap, Then_normal, Then_ret, Then_exit, InBlock_normal, InBlock_ret, InBlock_self, InBlock_exit, Ends_ret, Ends_normal, ares, tup, finO_some, fin_same, fin_false, argsE, dval, aop, ev, evs, evo, evp, fillL, addrOf, intOf?, lk_put, lk_none, lk_cons, lk_nil, keep_nil, keep_cons, Op1_some, Option.map_some, Option.bind_some, reduceIte, Nat.reduceEqDiff, binV_lss, binV_leq, binV_gtr, binV_geq, binV_eql, binV_neq, binV_add, binV_sub, binV_mul, un_not, CondA_false, CondA_true, Bool.not_true, Bool.not_false, reduceCtorEq, decide_true, decide_false, Nat.add_zero, Nat.zero_add, Nat.reduceAdd, Nat.reduceMul, Bool.bne_false, Bool.bne_true, eqPtr, Option.isNone_some, Option.isNone_none, List.getElem?_cons_zero, List.getElem?_cons_succ, Option.isSome_none, Option.isSome_some , hload, hstore, List.length_cons, List.length_nil, Nat.reduceAdd, Nat.reduceLeDiff, decide_true, List.all_cons, List.all_nil, one, Bool.and_true, Bool.true_and, Bool.and_self, splice, List.set_cons_zero, List.set_cons_succ, List.getElem?_cons_zero, List.getElem?_cons_succ, vc_int, vc_slice, vc_str, vc_bool, vc_int', vc_slice', vc_str', vc_bool', List.length_set, List.length_append, Nat.lt_irrefl, Nat.lt_add_one, and_self, true_and, and_true, lenV, cellsOfSlice, Nat.le_refl, if_true , g0, Nat.sub_zero, hbytes, ne_eq, not_true_eq_false, bits_spec hw, w1, quo8 _ (by omega : (wsAt l l.length).bs.length + 7 < 9223372036854775808), w2, newReader_eq, hnr]
          have hwl := hget_lt hw.ex.choose_spec.1.blk
          have fin3 : IntKind.i64.wrap (8 * (s.size : Int)) = 8 * (s.size : Int) := wrap_i64 (by omega) (by omega)
          have fin4 : IntKind.i64.wrap (8 * (s.size : Int) - ((wsAt l l.length).bs.length : Int)) = 8 * (s.size : Int) - ((wsAt l l.length).bs.length : Int) := wrap_i64 (by omega) (by omega)
          apply AW_loop_inv (fun j e H3 => j ≤ l.length ∧ e = [(3, .pointer (some ⟨H1.length, 0, none⟩)), (6, .string s), (8, .pointer (some ⟨H2.length, 0, none⟩)), (50, .slice b l.length z), (51, .int .i64 (l.length : Int)), (52, .int .i64 ((l.length - j : Nat) : Int))] ∧
            RSt H3 H2.length ⟨s, (wsAt l (l.length - j)).bs.length, 0⟩ ∧ WSt H3 H1.length o (wsAt l l.length).bs 0 ∧ (∀ q, o = some q → q < H2.length) ∧ LB H3 b z l H.length) _ l.length
          · refine ⟨Nat.le_refl _, by rw [Nat.sub_self]; rfl, by rw [Nat.sub_self]; exact hget_append_self, hw.push _, fun q hq => ?_, hlb.frame (O := []) ((Frm.refl _ _).push _) (by simp)⟩
            obtain ⟨d, hd1, _⟩ := hw.ex
            exact hget_lt (hd1.dat q hq).2
          · rintro j e H3 ⟨hj, rfl, hr, hw3, ho3, hlb3⟩
            cases j with
            | zero =>
              simp only [Nat.sub_zero] at hr
              have hro : (⟨s, (wsAt l l.length).bs.length, 0⟩ : RS).Ok := ⟨by simp only; omega, by simp only; omega⟩
              have hleft := left_spec hr hro
              have hl2 : (⟨s, (wsAt l l.length).bs.length, 0⟩ : RS).left = 8 * (s.size : Int) - ((wsAt l l.length).bs.length : Int) := rfl
              simp only [↓RW_seq, ↓AW_ret, ↓AW_skip, ↓AW_exit, ↓AW_block, ↓RW_cond, ↓RW_reg, ↓RW_regd, ↓RO_op, ↓RO_t, ↓RO_f, ↓RO_nt, ↓RO_nf, ↓AO_nil, ↓RD_op, ↓RD_t, ↓RD_f, ↓RD_nt, ↓RD_fe, ↓RD_nte, ↓RD_nf, ↓AOD_nil, CDops_eff, CDops_no, CDops_1, CDops_2, Again_nil, Again_cons, Same1_int, Same1_bool, Same1_str, Same1_ptr, Same1_slice, Same1_nil, CSeq_ap, CReg_ap, COps_ap, Then_normal, Then_ret, Then_exit, InBlock_normal, InBlock_ret, InBlock_self, InBlock_exit, Ends_ret, Ends_normal, ares, tup, finO_some, fin_same, fin_false, argsE, dval, aop, ev, evs, evo, evp, fillL, addrOf, intOf?, lk_put, lk_none, lk_cons, lk_nil, keep_nil, keep_cons, Op1_some, Option.map_some, Option.bind_some, reduceIte, Nat.reduceEqDiff, binV_lss, binV_leq, binV_gtr, binV_geq, binV_eql, binV_neq, binV_add, binV_sub, binV_mul, un_not, CondA_false, CondA_true, Bool.not_true, Bool.not_false, reduceCtorEq, decide_true, decide_false, Nat.add_zero, Nat.zero_add, Nat.reduceAdd, Nat.reduceMul, Bool.bne_false, Bool.bne_true, eqPtr, Option.isNone_some, Option.isNone_none, List.getElem?_cons_zero, List.getElem?_cons_succ, Option.isSome_none, Option.isSome_some , hload, hstore, List.length_cons, List.length_nil, Nat.reduceAdd, Nat.reduceLeDiff, decide_true, List.all_cons, List.all_nil, one, Bool.and_true, Bool.true_and, Bool.and_self, splice, List.set_cons_zero, List.set_cons_succ, List.getElem?_cons_zero, List.getElem?_cons_succ, vc_int, vc_slice, vc_str, vc_bool, vc_int', vc_slice', vc_str', vc_bool', List.length_set, List.length_append, Nat.lt_irrefl, Nat.lt_add_one, and_self, true_and, and_true, lenV, cellsOfSlice, Nat.le_refl, if_true , g0, Nat.sub_zero, hleft, hl2, bits_spec hw3, fin3, fin4]
              refine close_spec hr hro fun H5 hf5 => ?_
              rw [close_end hs]
              simp only [↓RW_seq, ↓AW_ret, ↓AW_skip, ↓AW_exit, ↓AW_block, ↓RW_cond, ↓RW_reg, ↓RW_regd, ↓RO_op, ↓RO_t, ↓RO_f, ↓RO_nt, ↓RO_nf, ↓AO_nil, ↓RD_op, ↓RD_t, ↓RD_f, ↓RD_nt, ↓RD_fe, ↓RD_nte, ↓RD_nf, ↓AOD_nil, CDops_eff, CDops_no, CDops_1, CDops_2, Again_nil, Again_cons, Same1_int, Same1_bool, Same1_str, Same1_ptr, Same1_slice, Same1_nil, CSeq_ap, CReg_ap, COps_ap, Then_normal, Then_ret, Then_exit, InBlock_normal, InBlock_ret, InBlock_self, InBlock_exit, Ends_ret, Ends_normal, ares, tup, finO_some, fin_same, fin_false, argsE, dval, aop, ev, evs, evo, evp, fillL, addrOf, intOf?, lk_put, lk_none, lk_cons, lk_nil, keep_nil, keep_cons, Op1_some, Option.map_some, Option.bind_some, reduceIte, Nat.reduceEqDiff, binV_lss, binV_leq, binV_gtr, binV_geq, binV_eql, binV_neq, binV_add, binV_sub, binV_mul, un_not, CondA_false, CondA_true, Bool.not_true, Bool.not_false, reduceCtorEq, decide_true, decide_false, Nat.add_zero, Nat.zero_add, Nat.reduceAdd, Nat.reduceMul, Bool.bne_false, Bool.bne_true, eqPtr, Option.isNone_some, Option.isNone_none, List.getElem?_cons_zero, List.getElem?_cons_succ, Option.isSome_none, Option.isSome_some , hload, hstore, List.length_cons, List.length_nil, Nat.reduceAdd, Nat.reduceLeDiff, decide_true, List.all_cons, List.all_nil, one, Bool.and_true, Bool.true_and, Bool.and_self, splice, List.set_cons_zero, List.set_cons_succ, List.getElem?_cons_zero, List.getElem?_cons_succ, vc_int, vc_slice, vc_str, vc_bool, vc_int', vc_slice', vc_str', vc_bool', List.length_set, List.length_append, Nat.lt_irrefl, Nat.lt_add_one, and_self, true_and, and_true, lenV, cellsOfSlice, Nat.le_refl, if_true ]
            | succ j =>
              obtain ⟨f, hfi⟩ : ∃ f, l[l.length - (j + 1)]? = some f := ⟨_, List.getElem?_eq_getElem (by omega)⟩
              obtain ⟨q, rfl, rfl, hqN, hq1⟩ := hlb3 _ f hfi
              obtain ⟨g0, g1, g2, g3, g4, g5, hfo⟩ := facts j f hj hfi
              have hsucc := wsAt_succ hfi
              obtain ⟨e1, x1, e2⟩ := wsAt_ext (l := l) (k := l.length - (j + 1) + 1) (m := l.length) (by omega) (Nat.le_refl _) herr
              have hskip : ¬ (0 ≤ f.kind ∧ f.kind ≤ 3) → wsAt l (l.length - j) = wsAt l (l.length - (j + 1)) := by
                intro hk
                rw [show l.length - j = l.length - (j + 1) + 1 by omega, hsucc]
                unfold WS.write
                rw [if_neg (by omega), if_neg (by omega), if_neg (by omega), if_neg (by omega)]
              have hpush : ∀ B, RSt (H3 ++ [B]) H2.length ⟨s, (wsAt l (l.length - (j + 1))).bs.length, 0⟩ := fun B => by
                unfold RSt; rw [hget_append_lt hr.lt]; exact hr
              have hlbp : ∀ B, LB (H3 ++ [B]) (some ⟨q, 0, none⟩) 4 l H.length := fun B => hlb3.frame (O := []) ((Frm.refl _ _).push _) (by simp)
              by_cases h2 : f.kind < 0
              · simp only [↓RW_seq, ↓AW_ret, ↓AW_skip, ↓AW_exit, ↓AW_block, ↓RW_cond, ↓RW_reg, ↓RW_regd, ↓RO_op, ↓RO_t, ↓RO_f, ↓RO_nt, ↓RO_nf, ↓AO_nil, ↓RD_op, ↓RD_t, ↓RD_f, ↓RD_nt, ↓RD_fe, ↓RD_nte, ↓RD_nf, ↓AOD_nil, CDops_eff, CDops_no, CDops_1, CDops_2, Again_nil, Again_cons, Same1_int, Same1_bool, Same1_str, Same1_ptr, Same1_slice, Same1_nil, CSeq_ap, CReg_ap, COps_ap, Then_normal, Then_ret, Then_exit, InBlock_normal, InBlock_ret, InBlock_self, InBlock_exit, Ends_ret, Ends_normal, ares, tup, finO_some, fin_same, fin_false, argsE, dval, aop, ev, evs, evo, evp, fillL, addrOf, intOf?, lk_put, lk_none, lk_cons, lk_nil, keep_nil, keep_cons, Op1_some, Option.map_some, Option.bind_some, reduceIte, Nat.reduceEqDiff, binV_lss, binV_leq, binV_gtr, binV_geq, binV_eql, binV_neq, binV_add, binV_sub, binV_mul, un_not, CondA_false, CondA_true, Bool.not_true, Bool.not_false, reduceCtorEq, decide_true, decide_false, Nat.add_zero, Nat.zero_add, Nat.reduceAdd, Nat.reduceMul, Bool.bne_false, Bool.bne_true, eqPtr, Option.isNone_some, Option.isNone_none, List.getElem?_cons_zero, List.getElem?_cons_succ, Option.isSome_none, Option.isSome_some , hload, hstore, List.length_cons, List.length_nil, Nat.reduceAdd, Nat.reduceLeDiff, decide_true, List.all_cons, List.all_nil, one, Bool.and_true, Bool.true_and, Bool.and_self, splice, List.set_cons_zero, List.set_cons_succ, List.getElem?_cons_zero, List.getElem?_cons_succ, vc_int, vc_slice, vc_str, vc_bool, vc_int', vc_slice', vc_str', vc_bool', List.length_set, List.length_append, Nat.lt_irrefl, Nat.lt_add_one, and_self, true_and, and_true, lenV, cellsOfSlice, Nat.le_refl, if_true , g0, g1, Int.toNat_natCast, hq1, g2, g3, g5, vc_agg', size4, hget_append_self, set_last, take4, list4, h2, ↓RO_u, g4]
                refine ⟨j, by omega, by omega, rfl, ?_, hw3.push _, ho3, hlbp _⟩
                rw [hskip (by omega)]; exact hpush _
              · by_cases h3 : 3 < f.kind
                · simp only [↓RW_seq, ↓AW_ret, ↓AW_skip, ↓AW_exit, ↓AW_block, ↓RW_cond, ↓RW_reg, ↓RW_regd, ↓RO_op, ↓RO_t, ↓RO_f, ↓RO_nt, ↓RO_nf, ↓AO_nil, ↓RD_op, ↓RD_t, ↓RD_f, ↓RD_nt, ↓RD_fe, ↓RD_nte, ↓RD_nf, ↓AOD_nil, CDops_eff, CDops_no, CDops_1, CDops_2, Again_nil, Again_cons, Same1_int, Same1_bool, Same1_str, Same1_ptr, Same1_slice, Same1_nil, CSeq_ap, CReg_ap, COps_ap, Then_normal, Then_ret, Then_exit, InBlock_normal, InBlock_ret, InBlock_self, InBlock_exit, Ends_ret, Ends_normal, ares, tup, finO_some, fin_same, fin_false, argsE, dval, aop, ev, evs, evo, evp, fillL, addrOf, intOf?, lk_put, lk_none, lk_cons, lk_nil, keep_nil, keep_cons, Op1_some, Option.map_some, Option.bind_some, reduceIte, Nat.reduceEqDiff, binV_lss, binV_leq, binV_gtr, binV_geq, binV_eql, binV_neq, binV_add, binV_sub, binV_mul, un_not, CondA_false, CondA_true, Bool.not_true, Bool.not_false, reduceCtorEq, decide_true, decide_false, Nat.add_zero, Nat.zero_add, Nat.reduceAdd, Nat.reduceMul, Bool.bne_false, Bool.bne_true, eqPtr, Option.isNone_some, Option.isNone_none, List.getElem?_cons_zero, List.getElem?_cons_succ, Option.isSome_none, Option.isSome_some , hload, hstore, List.length_cons, List.length_nil, Nat.reduceAdd, Nat.reduceLeDiff, decide_true, List.all_cons, List.all_nil, one, Bool.and_true, Bool.true_and, Bool.and_self, splice, List.set_cons_zero, List.set_cons_succ, List.getElem?_cons_zero, List.getElem?_cons_succ, vc_int, vc_slice, vc_str, vc_bool, vc_int', vc_slice', vc_str', vc_bool', List.length_set, List.length_append, Nat.lt_irrefl, Nat.lt_add_one, and_self, true_and, and_true, lenV, cellsOfSlice, Nat.le_refl, if_true , g0, g1, Int.toNat_natCast, hq1, g2, g3, g5, vc_agg', size4, hget_append_self, set_last, take4, list4, h2, h3, ↓RO_u, g4]
                  refine ⟨j, by omega, by omega, rfl, ?_, hw3.push _, ho3, hlbp _⟩
                  rw [hskip (by omega)]; exact hpush _
                · simp only [↓RW_seq, ↓AW_ret, ↓AW_skip, ↓AW_exit, ↓AW_block, ↓RW_cond, ↓RW_reg, ↓RW_regd, ↓RO_op, ↓RO_t, ↓RO_f, ↓RO_nt, ↓RO_nf, ↓AO_nil, ↓RD_op, ↓RD_t, ↓RD_f, ↓RD_nt, ↓RD_fe, ↓RD_nte, ↓RD_nf, ↓AOD_nil, CDops_eff, CDops_no, CDops_1, CDops_2, Again_nil, Again_cons, Same1_int, Same1_bool, Same1_str, Same1_ptr, Same1_slice, Same1_nil, CSeq_ap, CReg_ap, COps_ap, Then_normal, Then_ret, Then_exit, InBlock_normal, InBlock_ret, InBlock_self, InBlock_exit, Ends_ret, Ends_normal, ares, tup, finO_some, fin_same, fin_false, argsE, dval, aop, ev, evs, evo, evp, fillL, addrOf, intOf?, lk_put, lk_none, lk_cons, lk_nil, keep_nil, keep_cons, Op1_some, Option.map_some, Option.bind_some, reduceIte, Nat.reduceEqDiff, binV_lss, binV_leq, binV_gtr, binV_geq, binV_eql, binV_neq, binV_add, binV_sub, binV_mul, un_not, CondA_false, CondA_true, Bool.not_true, Bool.not_false, reduceCtorEq, decide_true, decide_false, Nat.add_zero, Nat.zero_add, Nat.reduceAdd, Nat.reduceMul, Bool.bne_false, Bool.bne_true, eqPtr, Option.isNone_some, Option.isNone_none, List.getElem?_cons_zero, List.getElem?_cons_succ, Option.isSome_none, Option.isSome_some , hload, hstore, List.length_cons, List.length_nil, Nat.reduceAdd, Nat.reduceLeDiff, decide_true, List.all_cons, List.all_nil, one, Bool.and_true, Bool.true_and, Bool.and_self, splice, List.set_cons_zero, List.set_cons_succ, List.getElem?_cons_zero, List.getElem?_cons_succ, vc_int, vc_slice, vc_str, vc_bool, vc_int', vc_slice', vc_str', vc_bool', List.length_set, List.length_append, Nat.lt_irrefl, Nat.lt_add_one, and_self, true_and, and_true, lenV, cellsOfSlice, Nat.le_refl, if_true , g0, g1, Int.toNat_natCast, hq1, g2, g3, g5, vc_agg', size4, hget_append_self, set_last, take4, list4, h2, h3, ↓RO_u]
                  rw [hsucc] at e1 e2
                  have hrd := write_read (tail := x1) e1 (by rw [← e2]; exact hs) ⟨by omega, by omega⟩
                  have hl1 := wsAt_len l (l.length - (j + 1))
                  have hl2 : (wsAt l (l.length - (j + 1))).bs.length ≤ 8 * s.size := by
                    have h4 := congrArg List.length e2
                    obtain ⟨_, y, hy⟩ := write_ext e1
                    have h5 := congrArg List.length hy
                    simp only [List.length_append] at h4 h5
                    omega
                  have hro : (⟨s, (wsAt l (l.length - (j + 1))).bs.length, 0⟩ : RS).Ok := ⟨hl2, by simp only; omega⟩
                  refine read_spec (f := f) (hpush _) hro hfo fun H4 hr4 hf4 => ?_
                  rw [hrd] at hr4 ⊢
                  simp only at hr4
                  have hlt : H3.length < H4.length := by have := hf4.1; simp at this; omega
                  have hne : H3.length ≠ H2.length := by have := hr.lt; omega
                  have h8 : hget H4 H3.length = some ⟨true, [.int .i64 f.kind, .int .i64 f.width, .int .i64 f.n, .string f.s]⟩ := by
                    rw [hf4.2 _ (by simp) (by simpa using hne), hget_append_self]
                  have hr5 : ∀ B, RSt (H4 ++ [B]) H2.length ⟨s, ((wsAt l (l.length - (j + 1))).write f).bs.length, 0⟩ := fun B => by
                    unfold RSt; rw [hget_append_lt hr4.lt]; exact hr4
                  have hw5 : ∀ B, WSt (H4 ++ [B]) H1.length o (wsAt l l.length).bs 0 := fun B =>
                    ((hw3.push _).frame hf4 (by simp; omega) (fun q' hq' => by have := ho3 q' hq'; simp; omega)).push _
                  have hlb5 : ∀ B, LB (H4 ++ [B]) (some ⟨q, 0, none⟩) 4 l H.length := fun B => by
                    have hH1 : H1.length < H2.length := hwl
                    exact ((hlbp _).frame hf4 (by simp; omega)).frame (O := []) ((Frm.refl _ _).push _) (by simp)
                  have hend : l.length - j = l.length - (j + 1) + 1 := by omega
                  rcases (by omega : f.kind = 0 ∨ f.kind = 1 ∨ f.kind = 2 ∨ f.kind = 3) with hk | hk | hk | hk
                  · have n1 : ¬ (0 : Int) = 3 := by omega
                    have n2 : ¬ (0 : Int) = 2 := by omega
                    have n3 : (0 : Int) ≤ 1 := by omega
                    simp only [hk] at h8
                    simp only [↓RW_seq, ↓AW_ret, ↓AW_skip, ↓AW_exit, ↓AW_block, ↓RW_cond, ↓RW_reg, ↓RW_regd, ↓RO_op, ↓RO_t, ↓RO_f, ↓RO_nt, ↓RO_nf, ↓AO_nil, ↓RD_op, ↓RD_t, ↓RD_f, ↓RD_nt, ↓RD_fe, ↓RD_nte, ↓RD_nf, ↓AOD_nil, CDops_eff, CDops_no, CDops_1, CDops_2, Again_nil, Again_cons, Same1_int, Same1_bool, Same1_str, Same1_ptr, Same1_slice, Same1_nil, CSeq_ap, CReg_ap, COps_ap, Then_normal, Then_ret, Then_exit, InBlock_normal, InBlock_ret, InBlock_self, InBlock_exit, Ends_ret, Ends_normal, ares, tup, finO_some, fin_same, fin_false, argsE, dval, aop, ev, evs, evo, evp, fillL, addrOf, intOf?, lk_put, lk_none, lk_cons, lk_nil, keep_nil, keep_cons, Op1_some, Option.map_some, Option.bind_some, reduceIte, Nat.reduceEqDiff, binV_lss, binV_leq, binV_gtr, binV_geq, binV_eql, binV_neq, binV_add, binV_sub, binV_mul, un_not, CondA_false, CondA_true, Bool.not_true, Bool.not_false, reduceCtorEq, decide_true, decide_false, Nat.add_zero, Nat.zero_add, Nat.reduceAdd, Nat.reduceMul, Bool.bne_false, Bool.bne_true, eqPtr, Option.isNone_some, Option.isNone_none, List.getElem?_cons_zero, List.getElem?_cons_succ, Option.isSome_none, Option.isSome_some , hload, hstore, List.length_cons, List.length_nil, Nat.reduceAdd, Nat.reduceLeDiff, decide_true, List.all_cons, List.all_nil, one, Bool.and_true, Bool.true_and, Bool.and_self, splice, List.set_cons_zero, List.set_cons_succ, List.getElem?_cons_zero, List.getElem?_cons_succ, vc_int, vc_slice, vc_str, vc_bool, vc_int', vc_slice', vc_str', vc_bool', List.length_set, List.length_append, Nat.lt_irrefl, Nat.lt_add_one, and_self, true_and, and_true, lenV, cellsOfSlice, Nat.le_refl, if_true , Fld.v, vc_agg', size4, hget_append_self, set_last, take4, list4, hk, n1, n2, n3, err_spec (hr5 _), ne_eq, not_true_eq_false, ↓RO_u, hget_lt_app, hlt, h8, g4]
                    refine ⟨j, by omega, by omega, rfl, ?_, hw5 _, ho3, hlb5 _⟩
                    rw [hend, hsucc]; exact hr5 _
                  · have n1 : ¬ (1 : Int) = 3 := by omega
                    have n2 : ¬ (1 : Int) = 2 := by omega
                    have n3 : (1 : Int) ≤ 1 := by omega
                    simp only [hk] at h8
                    simp only [↓RW_seq, ↓AW_ret, ↓AW_skip, ↓AW_exit, ↓AW_block, ↓RW_cond, ↓RW_reg, ↓RW_regd, ↓RO_op, ↓RO_t, ↓RO_f, ↓RO_nt, ↓RO_nf, ↓AO_nil, ↓RD_op, ↓RD_t, ↓RD_f, ↓RD_nt, ↓RD_fe, ↓RD_nte, ↓RD_nf, ↓AOD_nil, CDops_eff, CDops_no, CDops_1, CDops_2, Again_nil, Again_cons, Same1_int, Same1_bool, Same1_str, Same1_ptr, Same1_slice, Same1_nil, CSeq_ap, CReg_ap, COps_ap, Then_normal, Then_ret, Then_exit, InBlock_normal, InBlock_ret, InBlock_self, InBlock_exit, Ends_ret, Ends_normal, ares, tup, finO_some, fin_same, fin_false, argsE, dval, aop, ev, evs, evo, evp, fillL, addrOf, intOf?, lk_put, lk_none, lk_cons, lk_nil, keep_nil, keep_cons, Op1_some, Option.map_some, Option.bind_some, reduceIte, Nat.reduceEqDiff, binV_lss, binV_leq, binV_gtr, binV_geq, binV_eql, binV_neq, binV_add, binV_sub, binV_mul, un_not, CondA_false, CondA_true, Bool.not_true, Bool.not_false, reduceCtorEq, decide_true, decide_false, Nat.add_zero, Nat.zero_add, Nat.reduceAdd, Nat.reduceMul, Bool.bne_false, Bool.bne_true, eqPtr, Option.isNone_some, Option.isNone_none, List.getElem?_cons_zero, List.getElem?_cons_succ, Option.isSome_none, Option.isSome_some , hload, hstore, List.length_cons, List.length_nil, Nat.reduceAdd, Nat.reduceLeDiff, decide_true, List.all_cons, List.all_nil, one, Bool.and_true, Bool.true_and, Bool.and_self, splice, List.set_cons_zero, List.set_cons_succ, List.getElem?_cons_zero, List.getElem?_cons_succ, vc_int, vc_slice, vc_str, vc_bool, vc_int', vc_slice', vc_str', vc_bool', List.length_set, List.length_append, Nat.lt_irrefl, Nat.lt_add_one, and_self, true_and, and_true, lenV, cellsOfSlice, Nat.le_refl, if_true , Fld.v, vc_agg', size4, hget_append_self, set_last, take4, list4, hk, n1, n2, n3, err_spec (hr5 _), ne_eq, not_true_eq_false, ↓RO_u, hget_lt_app, hlt, h8, g4]
                    refine ⟨j, by omega, by omega, rfl, ?_, hw5 _, ho3, hlb5 _⟩
                    rw [hend, hsucc]; exact hr5 _
                  · have n1 : ¬ (2 : Int) = 3 := by omega
                    have n3 : ¬ (2 : Int) ≤ 1 := by omega
                    simp only [hk] at h8
                    by_cases hn : f.n = 0
                    · have n4 : ¬ (0 : Int) = 1 := by omega
                      simp only [hn] at h8
                      simp only [↓RW_seq, ↓AW_ret, ↓AW_skip, ↓AW_exit, ↓AW_block, ↓RW_cond, ↓RW_reg, ↓RW_regd, ↓RO_op, ↓RO_t, ↓RO_f, ↓RO_nt, ↓RO_nf, ↓AO_nil, ↓RD_op, ↓RD_t, ↓RD_f, ↓RD_nt, ↓RD_fe, ↓RD_nte, ↓RD_nf, ↓AOD_nil, CDops_eff, CDops_no, CDops_1, CDops_2, Again_nil, Again_cons, Same1_int, Same1_bool, Same1_str, Same1_ptr, Same1_slice, Same1_nil, CSeq_ap, CReg_ap, COps_ap, Then_normal, Then_ret, Then_exit, InBlock_normal, InBlock_ret, InBlock_self, InBlock_exit, Ends_ret, Ends_normal, ares, tup, finO_some, fin_same, fin_false, argsE, dval, aop, ev, evs, evo, evp, fillL, addrOf, intOf?, lk_put, lk_none, lk_cons, lk_nil, keep_nil, keep_cons, Op1_some, Option.map_some, Option.bind_some, reduceIte, Nat.reduceEqDiff, binV_lss, binV_leq, binV_gtr, binV_geq, binV_eql, binV_neq, binV_add, binV_sub, binV_mul, un_not, CondA_false, CondA_true, Bool.not_true, Bool.not_false, reduceCtorEq, decide_true, decide_false, Nat.add_zero, Nat.zero_add, Nat.reduceAdd, Nat.reduceMul, Bool.bne_false, Bool.bne_true, eqPtr, Option.isNone_some, Option.isNone_none, List.getElem?_cons_zero, List.getElem?_cons_succ, Option.isSome_none, Option.isSome_some , hload, hstore, List.length_cons, List.length_nil, Nat.reduceAdd, Nat.reduceLeDiff, decide_true, List.all_cons, List.all_nil, one, Bool.and_true, Bool.true_and, Bool.and_self, splice, List.set_cons_zero, List.set_cons_succ, List.getElem?_cons_zero, List.getElem?_cons_succ, vc_int, vc_slice, vc_str, vc_bool, vc_int', vc_slice', vc_str', vc_bool', List.length_set, List.length_append, Nat.lt_irrefl, Nat.lt_add_one, and_self, true_and, and_true, lenV, cellsOfSlice, Nat.le_refl, if_true , Fld.v, vc_agg', size4, hget_append_self, set_last, take4, list4, hk, hn, n1, n3, n4, err_spec (hr5 _), ne_eq, not_true_eq_false, ↓RO_u, hget_lt_app, hlt, h8, g4, beq_self_eq_true, Bool.bne_true]
                      refine ⟨j, by omega, by omega, rfl, ?_, hw5 _, ho3, hlb5 _⟩
                      rw [hend, hsucc]; exact hr5 _
                    · simp only [↓RW_seq, ↓AW_ret, ↓AW_skip, ↓AW_exit, ↓AW_block, ↓RW_cond, ↓RW_reg, ↓RW_regd, ↓RO_op, ↓RO_t, ↓RO_f, ↓RO_nt, ↓RO_nf, ↓AO_nil, ↓RD_op, ↓RD_t, ↓RD_f, ↓RD_nt, ↓RD_fe, ↓RD_nte, ↓RD_nf, ↓AOD_nil, CDops_eff, CDops_no, CDops_1, CDops_2, Again_nil, Again_cons, Same1_int, Same1_bool, Same1_str, Same1_ptr, Same1_slice, Same1_nil, CSeq_ap, CReg_ap, COps_ap, Then_normal, Then_ret, Then_exit, InBlock_normal, InBlock_ret, InBlock_self, InBlock_exit, Ends_ret, Ends_normal, ares, tup, finO_some, fin_same, fin_false, argsE, dval, aop, ev, evs, evo, evp, fillL, addrOf, intOf?, lk_put, lk_none, lk_cons, lk_nil, keep_nil, keep_cons, Op1_some, Option.map_some, Option.bind_some, reduceIte, Nat.reduceEqDiff, binV_lss, binV_leq, binV_gtr, binV_geq, binV_eql, binV_neq, binV_add, binV_sub, binV_mul, un_not, CondA_false, CondA_true, Bool.not_true, Bool.not_false, reduceCtorEq, decide_true, decide_false, Nat.add_zero, Nat.zero_add, Nat.reduceAdd, Nat.reduceMul, Bool.bne_false, Bool.bne_true, eqPtr, Option.isNone_some, Option.isNone_none, List.getElem?_cons_zero, List.getElem?_cons_succ, Option.isSome_none, Option.isSome_some , hload, hstore, List.length_cons, List.length_nil, Nat.reduceAdd, Nat.reduceLeDiff, decide_true, List.all_cons, List.all_nil, one, Bool.and_true, Bool.true_and, Bool.and_self, splice, List.set_cons_zero, List.set_cons_succ, List.getElem?_cons_zero, List.getElem?_cons_succ, vc_int, vc_slice, vc_str, vc_bool, vc_int', vc_slice', vc_str', vc_bool', List.length_set, List.length_append, Nat.lt_irrefl, Nat.lt_add_one, and_self, true_and, and_true, lenV, cellsOfSlice, Nat.le_refl, if_true , Fld.v, vc_agg', size4, hget_append_self, set_last, take4, list4, hk, hn, n1, n3, err_spec (hr5 _), ne_eq, not_true_eq_false, not_false_eq_true, ↓RO_u, hget_lt_app, hlt, h8, g4, beq_self_eq_true, Bool.bne_true]
                      refine ⟨j, by omega, by omega, rfl, ?_, hw5 _, ho3, hlb5 _⟩
                      rw [hend, hsucc]; exact hr5 _
                  · have n2 : ¬ (3 : Int) = 2 := by omega
                    have n3 : ¬ (3 : Int) ≤ 1 := by omega
                    simp only [hk] at h8
                    simp only [↓RW_seq, ↓AW_ret, ↓AW_skip, ↓AW_exit, ↓AW_block, ↓RW_cond, ↓RW_reg, ↓RW_regd, ↓RO_op, ↓RO_t, ↓RO_f, ↓RO_nt, ↓RO_nf, ↓AO_nil, ↓RD_op, ↓RD_t, ↓RD_f, ↓RD_nt, ↓RD_fe, ↓RD_nte, ↓RD_nf, ↓AOD_nil, CDops_eff, CDops_no, CDops_1, CDops_2, Again_nil, Again_cons, Same1_int, Same1_bool, Same1_str, Same1_ptr, Same1_slice, Same1_nil, CSeq_ap, CReg_ap, COps_ap, Then_normal, Then_ret, Then_exit, InBlock_normal, InBlock_ret, InBlock_self, InBlock_exit, Ends_ret, Ends_normal, ares, tup, finO_some, fin_same, fin_false, argsE, dval, aop, ev, evs, evo, evp, fillL, addrOf, intOf?, lk_put, lk_none, lk_cons, lk_nil, keep_nil, keep_cons, Op1_some, Option.map_some, Option.bind_some, reduceIte, Nat.reduceEqDiff, binV_lss, binV_leq, binV_gtr, binV_geq, binV_eql, binV_neq, binV_add, binV_sub, binV_mul, un_not, CondA_false, CondA_true, Bool.not_true, Bool.not_false, reduceCtorEq, decide_true, decide_false, Nat.add_zero, Nat.zero_add, Nat.reduceAdd, Nat.reduceMul, Bool.bne_false, Bool.bne_true, eqPtr, Option.isNone_some, Option.isNone_none, List.getElem?_cons_zero, List.getElem?_cons_succ, Option.isSome_none, Option.isSome_some , hload, hstore, List.length_cons, List.length_nil, Nat.reduceAdd, Nat.reduceLeDiff, decide_true, List.all_cons, List.all_nil, one, Bool.and_true, Bool.true_and, Bool.and_self, splice, List.set_cons_zero, List.set_cons_succ, List.getElem?_cons_zero, List.getElem?_cons_succ, vc_int, vc_slice, vc_str, vc_bool, vc_int', vc_slice', vc_str', vc_bool', List.length_set, List.length_append, Nat.lt_irrefl, Nat.lt_add_one, and_self, true_and, and_true, lenV, cellsOfSlice, Nat.le_refl, if_true , Fld.v, vc_agg', size4, hget_append_self, set_last, take4, list4, hk, n2, n3, err_spec (hr5 _), ne_eq, not_true_eq_false, ↓RO_u, hget_lt_app, hlt, h8, g4, binV_sne]
                    refine ⟨j, by omega, by omega, rfl, ?_, hw5 _, ho3, hlb5 _⟩
                    rw [hend, hsucc]; exact hr5 _
        · have hse : (if (wsAt l l.length).err = 0 then s else ⟨#[]⟩) = (⟨#[]⟩ : ByteArray) := if_neg herr
          rw [hse] at hbytes
          simp only [↓RW_seq, ↓AW_ret, ↓AW_skip, ↓AW_exit, ↓AW_block, ↓RW_cond, ↓RW_reg, ↓RW_regd, ↓RO_op, ↓RO_t, ↓RO_f, ↓RO_nt, ↓RO_nf, ↓AO_nil, ↓RD_op, ↓RD_t, ↓RD_f, ↓RD_nt, ↓RD_fe, ↓RD_nte, ↓RD_nf, ↓AOD_nil, CDops_eff, CDops_no, CDops_1, CDops_2, Again_nil, Again_cons, Same1_int, Same1_bool, Same1_str, Same1_ptr, Same1_slice, Same1_nil, CSeq_ap, CReg_ap, COps_ap, Then_normal, Then_ret, Then_exit, InBlock_normal, InBlock_ret, InBlock_self, InBlock_exit, Ends_ret, Ends_normal, ares, tup, finO_some, fin_same, fin_false, argsE, dval, aop, ev, evs, evo, evp, fillL, addrOf, intOf?, lk_put, lk_none, lk_cons, lk_nil, keep_nil, keep_cons, Op1_some, Option.map_some, Option.bind_some, reduceIte, Nat.reduceEqDiff, binV_lss, binV_leq, binV_gtr, binV_geq, binV_eql, binV_neq, binV_add, binV_sub, binV_mul, un_not, CondA_false, CondA_true, Bool.not_true, Bool.not_false, reduceCtorEq, decide_true, decide_false, Nat.add_zero, Nat.zero_add, Nat.reduceAdd, Nat.reduceMul, Bool.bne_false, Bool.bne_true, eqPtr, Option.isNone_some, Option.isNone_none, List.getElem?_cons_zero, List.getElem?_cons_succ, Option.isSome_none, Option.isSome_some , hload, hstore, List.length_cons, List.length_nil, Nat.reduceAdd, Nat.reduceLeDiff, decide_true, List.all_cons, List.all_nil, one, Bool.and_true, Bool.true_and, Bool.and_self, splice, List.set_cons_zero, List.set_cons_succ, List.getElem?_cons_zero, List.getElem?_cons_succ, vc_int, vc_slice, vc_str, vc_bool, vc_int', vc_slice', vc_str', vc_bool', List.length_set, List.length_append, Nat.lt_irrefl, Nat.lt_add_one, and_self, true_and, and_true, lenV, cellsOfSlice, Nat.le_refl, if_true , g0, Nat.sub_zero, hbytes, ne_eq, herr, not_false_eq_true, binV_seq, eq_self]

end Go.Proofs.Ytlbhbjaimcinbaa.AI

/- BitioStrict in the interpreter. -/
set_option linter.unusedSimpArgs false
namespace Go.Proofs.Ytlbhbjaimcinbaa.AI
open Go

theorem empty_small : (⟨#[]⟩ : ByteArray).size ≤ 100000 := by decide
theorem field_s {r : RS} {right : Bool} {w : Int} : (r.field right w).2.s = r.s := by
  unfold RS.field
  repeat' split
  all_goals rfl
theorem text_s {r : RS} {w : Int} : (r.text w).2.s = r.s := by
  unfold RS.text
  have := @field_s r (lim w) (wd w)
  simp only
  repeat' split
  all_goals exact this
theorem read_s {r : RS} {f : Fld} : (r.read f).2.s = r.s := by
  unfold RS.read
  repeat' split
  · exact field_s
  · exact field_s
  · exact field_s
  · exact field_s
  · exact text_s
  · rfl
theorem field_fst {r : RS} {right : Bool} {w : Int} (hw : right = true → w ≤ 63) : ((r.field right w).1 : Int) < 9223372036854775808 ∧ (0 : Int) ≤ ((r.field right w).1 : Int) := by
  have := @field_small r right w hw
  omega
theorem text_fst_size {r : RS} (ho : r.Ok) (most : Int) : (r.text most).1.size ≤ 100000 := by
  have h1 := ho.at_le
  have h2 := ho.size
  by_cases h : (r.text most).2.err = 0
  · obtain ⟨_, _, h3, _, h4⟩ := rtext_err0 h
    rw [h4]; simp only [strOf_size, readL_length]; omega
  · unfold RS.text at h ⊢
    simp only at h ⊢
    split
    · exact empty_small
    · rename_i c1
      rw [if_neg c1] at h
      split
      · exact empty_small
      · rename_i c2
        rw [if_neg c2] at h
        split
        · exact empty_small
        · rename_i c3
          rw [if_neg c3] at h
          exact absurd (by simpa using c1) h
/-- What is read is a field once more. -/
theorem read_fok {r : RS} {f : Fld} (ho : r.Ok) (hf : f.Ok) : (r.read f).1.Ok := by
  unfold RS.read
  split
  · have := @field_fst r (decide (1 ≤ f.width ∧ f.width ≤ 63)) f.width (fun h => by simp at h; omega)
    exact ⟨hf.kind, hf.width, ⟨by simp only [RS.unsigned]; omega, by simp only [RS.unsigned]; omega⟩, empty_small⟩
  · split
    · have h1 := @field_fst r (decide (2 ≤ f.width ∧ f.width ≤ 63)) f.width (fun h => by simp at h; omega)
      refine ⟨hf.kind, hf.width, ?_, empty_small⟩
      simp only [RS.signed]
      split
      · rename_i hc
        obtain ⟨e1, _, _, _⟩ := field_err0 hc.1
        simp only [decide_eq_true_eq] at e1
        have := pow63 e1.2
        have h2 := pow_pos' f.width.toNat
        exact ⟨by omega, by omega⟩
      · exact ⟨by omega, by omega⟩
    · split
      · exact ⟨hf.kind, ⟨by simp only; omega, by simp only; omega⟩, ⟨by simp only; split <;> omega, by simp only; split <;> omega⟩, empty_small⟩
      · split
        · exact ⟨hf.kind, hf.width, ⟨by simp only; omega, by simp only; omega⟩, text_fst_size ho _⟩
        · exact hf
set_option maxHeartbeats 2000000 in
theorem strict {H : Heap} {v : Value} {l : List Fld} {data : ByteArray} (hla : LA H v l) (hok : ∀ f ∈ l, Is64 f.kind ∧ Is64 f.width ∧ Is64 f.n) : Op1 (AC tbl 4 [.string data, v] H) fun r _ => r = .bool true := by
  apply AC_wp (F := F4) rfl (by simp [F4]) (.inl rfl)
  by_cases h300 : (300 : Int) < (data.size : Int)
  · simp only [F4, ↓RW_seq, ↓AW_ret, ↓AW_skip, ↓AW_exit, ↓AW_block, ↓RW_cond, ↓RW_reg, ↓RW_regd, ↓RO_op, ↓RO_t, ↓RO_f, ↓RO_nt, ↓RO_nf, ↓AO_nil, ↓RD_op, ↓RD_t, ↓RD_f, ↓RD_nt, ↓RD_fe, ↓RD_nte, ↓RD_nf, ↓AOD_nil, CDops_eff, CDops_no, CDops_1, CDops_2, Again_nil, Again_cons, Same1_int, Same1_bool, Same1_str, Same1_ptr, Same1_slice, Same1_nil, CSeq_ap, CReg_ap, COps_ap, Then_normal, Then_ret, Then_exit, InBlock_normal, InBlock_ret, InBlock_self, InBlock_exit, Ends_ret, Ends_normal, ares, tup, finO_some, fin_same, fin_false, argsE, dval, aop, ev, evs, evo, evp, fillL, addrOf, intOf?, lk_put, lk_none, lk_cons, lk_nil, keep_nil, keep_cons, Op1_some, Option.map_some, Option.bind_some, reduceIte, Nat.reduceEqDiff, binV_lss, binV_leq, binV_gtr, binV_geq, binV_eql, binV_neq, binV_add, binV_sub, binV_mul, un_not, CondA_false, CondA_true, Bool.not_true, Bool.not_false, reduceCtorEq, decide_true, decide_false, Nat.add_zero, Nat.zero_add, Nat.reduceAdd, Nat.reduceMul, Bool.bne_false, Bool.bne_true, eqPtr, Option.isNone_some, Option.isNone_none, List.getElem?_cons_zero, List.getElem?_cons_succ, Option.isSome_none, Option.isSome_some , hload, hstore, List.length_cons, List.length_nil, Nat.reduceAdd, Nat.reduceLeDiff, decide_true, List.all_cons, List.all_nil, one, Bool.and_true, Bool.true_and, Bool.and_self, splice, List.set_cons_zero, List.set_cons_succ, List.getElem?_cons_zero, List.getElem?_cons_succ, vc_int, vc_slice, vc_str, vc_bool, vc_int', vc_slice', vc_str', vc_bool', List.length_set, List.length_append, Nat.lt_irrefl, Nat.lt_add_one, and_self, true_and, and_true, lenV, cellsOfSlice, Nat.le_refl, if_true , awake_any, h300]
  · simp only [F4, ↓RW_seq, ↓AW_ret, ↓AW_skip, ↓AW_exit, ↓AW_block, ↓RW_cond, ↓RW_reg, ↓RW_regd, ↓RO_op, ↓RO_t, ↓RO_f, ↓RO_nt, ↓RO_nf, ↓AO_nil, ↓RD_op, ↓RD_t, ↓RD_f, ↓RD_nt, ↓RD_fe, ↓RD_nte, ↓RD_nf, ↓AOD_nil, CDops_eff, CDops_no, CDops_1, CDops_2, Again_nil, Again_cons, Same1_int, Same1_bool, Same1_str, Same1_ptr, Same1_slice, Same1_nil, CSeq_ap, CReg_ap, COps_ap, Then_normal, Then_ret, Then_exit, InBlock_normal, InBlock_ret, InBlock_self, InBlock_exit, Ends_ret, Ends_normal, ares, tup, finO_some, fin_same, fin_false, argsE, dval, aop, ev, evs, evo, evp, fillL, addrOf, intOf?, lk_put, lk_none, lk_cons, lk_nil, keep_nil, keep_cons, Op1_some, Option.map_some, Option.bind_some, reduceIte, Nat.reduceEqDiff, binV_lss, binV_leq, binV_gtr, binV_geq, binV_eql, binV_neq, binV_add, binV_sub, binV_mul, un_not, CondA_false, CondA_true, Bool.not_true, Bool.not_false, reduceCtorEq, decide_true, decide_false, Nat.add_zero, Nat.zero_add, Nat.reduceAdd, Nat.reduceMul, Bool.bne_false, Bool.bne_true, eqPtr, Option.isNone_some, Option.isNone_none, List.getElem?_cons_zero, List.getElem?_cons_succ, Option.isSome_none, Option.isSome_some , hload, hstore, List.length_cons, List.length_nil, Nat.reduceAdd, Nat.reduceLeDiff, decide_true, List.all_cons, List.all_nil, one, Bool.and_true, Bool.true_and, Bool.and_self, splice, List.set_cons_zero, List.set_cons_succ, List.getElem?_cons_zero, List.getElem?_cons_succ, vc_int, vc_slice, vc_str, vc_bool, vc_int', vc_slice', vc_str', vc_bool', List.length_set, List.length_append, Nat.lt_irrefl, Nat.lt_add_one, and_self, true_and, and_true, lenV, cellsOfSlice, Nat.le_refl, if_true , awake_any, h300]
    refine few_spec hla fun H1 hf1 => ?_
    cases hfew : fewB l with
    | false => simp only [↓RW_seq, ↓AW_ret, ↓AW_skip, ↓AW_exit, ↓AW_block, ↓RW_cond, ↓RW_reg, ↓RW_regd, ↓RO_op, ↓RO_t, ↓RO_f, ↓RO_nt, ↓RO_nf, ↓AO_nil, ↓RD_op, ↓RD_t, ↓RD_f, ↓RD_nt, ↓RD_fe, ↓RD_nte, ↓RD_nf, ↓AOD_nil, CDops_eff, CDops_no, CDops_1, CDops_2, Again_nil, Again_cons, Same1_int, Same1_bool, Same1_str, Same1_ptr, Same1_slice, Same1_nil, CSeq_ap, CReg_ap, COps_ap, Then_normal, Then_ret, Then_exit, InBlock_normal, InBlock_ret, InBlock_self, InBlock_exit, Ends_ret, Ends_normal, ares, tup, finO_some, fin_same, fin_false, argsE, dval, aop, ev, evs, evo, evp, fillL, addrOf, intOf?, lk_put, lk_none, lk_cons, lk_nil, keep_nil, keep_cons, Op1_some, Option.map_some, Option.bind_some, reduceIte, Nat.reduceEqDiff, binV_lss, binV_leq, binV_gtr, binV_geq, binV_eql, binV_neq, binV_add, binV_sub, binV_mul, un_not, CondA_false, CondA_true, Bool.not_true, Bool.not_false, reduceCtorEq, decide_true, decide_false, Nat.add_zero, Nat.zero_add, Nat.reduceAdd, Nat.reduceMul, Bool.bne_false, Bool.bne_true, eqPtr, Option.isNone_some, Option.isNone_none, List.getElem?_cons_zero, List.getElem?_cons_succ, Option.isSome_none, Option.isSome_some , hload, hstore, List.length_cons, List.length_nil, Nat.reduceAdd, Nat.reduceLeDiff, decide_true, List.all_cons, List.all_nil, one, Bool.and_true, Bool.true_and, Bool.and_self, splice, List.set_cons_zero, List.set_cons_succ, List.getElem?_cons_zero, List.getElem?_cons_succ, vc_int, vc_slice, vc_str, vc_bool, vc_int', vc_slice', vc_str', vc_bool', List.length_set, List.length_append, Nat.lt_irrefl, Nat.lt_add_one, and_self, true_and, and_true, lenV, cellsOfSlice, Nat.le_refl, if_true ]
    | true =>
      obtain ⟨b, z, rfl, hb⟩ := hla.lb
      have hsh : ∀ f ∈ l, f.s.size ≤ 200 := by
        simp only [fewB, Bool.and_eq_true, List.all_eq_true, decide_eq_true_eq] at hfew
        exact hfew.2
      have hl40 : l.length ≤ 40 := by
        simp only [fewB, Bool.and_eq_true, List.all_eq_true, decide_eq_true_eq] at hfew
        exact hfew.1
      have hp0 : H.length ≤ H1.length := hf1.1
      have hnr : newR data = ⟨data, 0, 0⟩ := by unfold newR; rw [if_neg (by omega)]
      have hlen2 : ∀ B : Option Blk, (H1 ++ [B]).length = H1.length + 1 := fun B => by simp
      simp only [↓RW_seq, ↓AW_ret, ↓AW_skip, ↓AW_exit, ↓AW_block, ↓RW_cond, ↓RW_reg, ↓RW_regd, ↓RO_op, ↓RO_t, ↓RO_f, ↓RO_nt, ↓RO_nf, ↓AO_nil, ↓RD_op, ↓RD_t, ↓RD_f, ↓RD_nt, ↓RD_fe, ↓RD_nte, ↓RD_nf, ↓AOD_nil, CDops_eff, CDops_no, CDops_1, CDops_2, Again_nil, Again_cons, Same1_int, Same1_bool, Same1_str, Same1_ptr, Same1_slice, Same1_nil, CSeq_ap, CReg_ap, COps_ap, Then_normal, Then_ret, Then_exit, InBlock_normal, InBlock_ret, InBlock_self, InBlock_exit, Ends_ret, Ends_normal, ares, tup, finO_some, fin_same, fin_false, argsE, dval, aop, ev, evs, evo, evp, fillL, addrOf, intOf?, lk_put, lk_none, lk_cons, lk_nil, keep_nil, keep_cons, Op1_some, Option.map_some, Option.bind_some, reduceIte, Nat.reduceEqDiff, binV_lss, binV_leq, binV_gtr, binV_geq, binV_eql, binV_neq, binV_add, binV_sub, binV_mul, un_not, CondA_false, CondA_true, Bool.not_true, Bool.not_false, reduceCtorEq, decide_true, decide_false, Nat.add_zero, Nat.zero_add, Nat.reduceAdd, Nat.reduceMul, Bool.bne_false, Bool.bne_true, eqPtr, Option.isNone_some, Option.isNone_none, List.getElem?_cons_zero, List.getElem?_cons_succ, Option.isSome_none, Option.isSome_some , hload, hstore, List.length_cons, List.length_nil, Nat.reduceAdd, Nat.reduceLeDiff, decide_true, List.all_cons, List.all_nil, one, Bool.and_true, Bool.true_and, Bool.and_self, splice, List.set_cons_zero, List.set_cons_succ, List.getElem?_cons_zero, List.getElem?_cons_succ, vc_int, vc_slice, vc_str, vc_bool, vc_int', vc_slice', vc_str', vc_bool', List.length_set, List.length_append, Nat.lt_irrefl, Nat.lt_add_one, and_self, true_and, and_true, lenV, cellsOfSlice, Nat.le_refl, if_true , newReader_eq, newWriter_eq, hnr]
      apply AW_loop_inv (fun j e H2 => j ≤ l.length ∧ e = [(0, .string data), (5, .pointer (some ⟨H1.length, 0, none⟩)), (6, .pointer (some ⟨H1.length + 1, 0, none⟩)), (31, .slice b l.length z), (32, .int .i64 (l.length : Int)), (33, .int .i64 ((l.length - j : Nat) : Int))] ∧
        ∃ (r : RS) (o : Option Nat) (w : WS), RSt H2 H1.length r ∧ r.Ok ∧ r.s.size ≤ 300 ∧ WSt H2 (H1.length + 1) o w.bs w.err ∧ w.bs.length ≤ 524288 ∧ (∀ q, o = some q → H1.length + 1 < q) ∧ (r.err = 0 → r.s = data ∧ w = ⟨seg data 0 r.at_, 0⟩) ∧ LB H2 b z l H.length) _ l.length
      · refine ⟨Nat.le_refl _, by rw [Nat.sub_self]; rfl, ⟨data, 0, 0⟩, none, ⟨[], 0⟩, ?_, ⟨Nat.zero_le _, by simp only; omega⟩, by simp only; omega, ?_, by simp, by simp, fun _ => ⟨rfl, rfl⟩, ?_⟩
        · unfold RSt; rw [hget_append_lt (by simp)]; exact hget_append_self
        · have := newWriter_st (H1 ++ [some ⟨true, (⟨data, 0, 0⟩ : RS).cells⟩])
          rw [hlen2] at this; exact this
        · exact ((hb.frame hf1 (by simp)).frame (O := []) ((Frm.refl _ _).push _) (by simp)).frame (O := []) ((Frm.refl _ _).push _) (by simp)
      · rintro j e H2 ⟨hj, rfl, r, o, w, hr, hro, hrs, hw, hwlen, ho, hsame, hlb⟩
        have hwl := hget_lt hw.ex.choose_spec.1.blk
        cases j with
        | zero =>
          have g0 : ¬ (l.length : Int) < (l.length : Int) := by omega
          simp only [↓RW_seq, ↓AW_ret, ↓AW_skip, ↓AW_exit, ↓AW_block, ↓RW_cond, ↓RW_reg, ↓RW_regd, ↓RO_op, ↓RO_t, ↓RO_f, ↓RO_nt, ↓RO_nf, ↓AO_nil, ↓RD_op, ↓RD_t, ↓RD_f, ↓RD_nt, ↓RD_fe, ↓RD_nte, ↓RD_nf, ↓AOD_nil, CDops_eff, CDops_no, CDops_1, CDops_2, Again_nil, Again_cons, Same1_int, Same1_bool, Same1_str, Same1_ptr, Same1_slice, Same1_nil, CSeq_ap, CReg_ap, COps_ap, Then_normal, Then_ret, Then_exit, InBlock_normal, InBlock_ret, InBlock_self, InBlock_exit, Ends_ret, Ends_normal, ares, tup, finO_some, fin_same, fin_false, argsE, dval, aop, ev, evs, evo, evp, fillL, addrOf, intOf?, lk_put, lk_none, lk_cons, lk_nil, keep_nil, keep_cons, Op1_some, Option.map_some, Option.bind_some, reduceIte, Nat.reduceEqDiff, binV_lss, binV_leq, binV_gtr, binV_geq, binV_eql, binV_neq, binV_add, binV_sub, binV_mul, un_not, CondA_false, CondA_true, Bool.not_true, Bool.not_false, reduceCtorEq, decide_true, decide_false, Nat.add_zero, Nat.zero_add, Nat.reduceAdd, Nat.reduceMul, Bool.bne_false, Bool.bne_true, eqPtr, Option.isNone_some, Option.isNone_none, List.getElem?_cons_zero, List.getElem?_cons_succ, Option.isSome_none, Option.isSome_some , hload, hstore, List.length_cons, List.length_nil, Nat.reduceAdd, Nat.reduceLeDiff, decide_true, List.all_cons, List.all_nil, one, Bool.and_true, Bool.true_and, Bool.and_self, splice, List.set_cons_zero, List.set_cons_succ, List.getElem?_cons_zero, List.getElem?_cons_succ, vc_int, vc_slice, vc_str, vc_bool, vc_int', vc_slice', vc_str', vc_bool', List.length_set, List.length_append, Nat.lt_irrefl, Nat.lt_add_one, and_self, true_and, and_true, lenV, cellsOfSlice, Nat.le_refl, if_true , g0, Nat.sub_zero]
          refine close_spec hr hro fun H5 hf5 => ?_
          have hw5 : WSt H5 (H1.length + 1) o w.bs w.err := hw.frame hf5 (by simp) (by simp)
          by_cases hc : r.close = 0
          · have he : r.err = 0 := by
              refine Classical.byContradiction fun he => ?_
              simp only [RS.close, he, ne_eq, not_false_eq_true, if_true] at hc
            obtain ⟨hd, rfl⟩ := hsame he
            obtain ⟨s, hs, hbytes⟩ := bytes_spec hw5
            simp only [RS.close, he, ne_eq, not_true_eq_false, if_false] at hc
            have hat := hro.at_le
            have h8 : ¬ 8 ≤ r.left := fun h8 => by rw [if_pos h8] at hc; omega
            rw [if_neg h8] at hc
            have hv : valOf r.s r.at_ r.left.toNat = 0 := by
              refine Classical.byContradiction fun hv => ?_
              rw [if_pos hv] at hc; omega
            simp only [RS.left, he, if_true] at h8 hv
            rw [show (8 * (r.s.size : Int) - (r.at_ : Int)).toNat = 8 * r.s.size - r.at_ by omega] at hv
            rw [← hd] at hs hbytes
            have hst := hs.same (isStr_seg hat (by omega) hv)
            subst hst
            rw [hd] at hbytes
            have hcl : r.close = 0 := by
              simp only [RS.close, he, RS.left, if_true]
              rw [if_neg (by simp), if_neg h8, if_neg (by rw [show (8 * (r.s.size : Int) - (r.at_ : Int)).toNat = 8 * r.s.size - r.at_ by omega]; simpa using hv)]
            simp only [↓RW_seq, ↓AW_ret, ↓AW_skip, ↓AW_exit, ↓AW_block, ↓RW_cond, ↓RW_reg, ↓RW_regd, ↓RO_op, ↓RO_t, ↓RO_f, ↓RO_nt, ↓RO_nf, ↓AO_nil, ↓RD_op, ↓RD_t, ↓RD_f, ↓RD_nt, ↓RD_fe, ↓RD_nte, ↓RD_nf, ↓AOD_nil, CDops_eff, CDops_no, CDops_1, CDops_2, Again_nil, Again_cons, Same1_int, Same1_bool, Same1_str, Same1_ptr, Same1_slice, Same1_nil, CSeq_ap, CReg_ap, COps_ap, Then_normal, Then_ret, Then_exit, InBlock_normal, InBlock_ret, InBlock_self, InBlock_exit, Ends_ret, Ends_normal, ares, tup, finO_some, fin_same, fin_false, argsE, dval, aop, ev, evs, evo, evp, fillL, addrOf, intOf?, lk_put, lk_none, lk_cons, lk_nil, keep_nil, keep_cons, Op1_some, Option.map_some, Option.bind_some, reduceIte, Nat.reduceEqDiff, binV_lss, binV_leq, binV_gtr, binV_geq, binV_eql, binV_neq, binV_add, binV_sub, binV_mul, un_not, CondA_false, CondA_true, Bool.not_true, Bool.not_false, reduceCtorEq, decide_true, decide_false, Nat.add_zero, Nat.zero_add, Nat.reduceAdd, Nat.reduceMul, Bool.bne_false, Bool.bne_true, eqPtr, Option.isNone_some, Option.isNone_none, List.getElem?_cons_zero, List.getElem?_cons_succ, Option.isSome_none, Option.isSome_some , hload, hstore, List.length_cons, List.length_nil, Nat.reduceAdd, Nat.reduceLeDiff, decide_true, List.all_cons, List.all_nil, one, Bool.and_true, Bool.true_and, Bool.and_self, splice, List.set_cons_zero, List.set_cons_succ, List.getElem?_cons_zero, List.getElem?_cons_succ, vc_int, vc_slice, vc_str, vc_bool, vc_int', vc_slice', vc_str', vc_bool', List.length_set, List.length_append, Nat.lt_irrefl, Nat.lt_add_one, and_self, true_and, and_true, lenV, cellsOfSlice, Nat.le_refl, if_true , hcl, ne_eq, not_true_eq_false, hbytes, hd, binV_seq, eq_self]
          · simp only [↓RW_seq, ↓AW_ret, ↓AW_skip, ↓AW_exit, ↓AW_block, ↓RW_cond, ↓RW_reg, ↓RW_regd, ↓RO_op, ↓RO_t, ↓RO_f, ↓RO_nt, ↓RO_nf, ↓AO_nil, ↓RD_op, ↓RD_t, ↓RD_f, ↓RD_nt, ↓RD_fe, ↓RD_nte, ↓RD_nf, ↓AOD_nil, CDops_eff, CDops_no, CDops_1, CDops_2, Again_nil, Again_cons, Same1_int, Same1_bool, Same1_str, Same1_ptr, Same1_slice, Same1_nil, CSeq_ap, CReg_ap, COps_ap, Then_normal, Then_ret, Then_exit, InBlock_normal, InBlock_ret, InBlock_self, InBlock_exit, Ends_ret, Ends_normal, ares, tup, finO_some, fin_same, fin_false, argsE, dval, aop, ev, evs, evo, evp, fillL, addrOf, intOf?, lk_put, lk_none, lk_cons, lk_nil, keep_nil, keep_cons, Op1_some, Option.map_some, Option.bind_some, reduceIte, Nat.reduceEqDiff, binV_lss, binV_leq, binV_gtr, binV_geq, binV_eql, binV_neq, binV_add, binV_sub, binV_mul, un_not, CondA_false, CondA_true, Bool.not_true, Bool.not_false, reduceCtorEq, decide_true, decide_false, Nat.add_zero, Nat.zero_add, Nat.reduceAdd, Nat.reduceMul, Bool.bne_false, Bool.bne_true, eqPtr, Option.isNone_some, Option.isNone_none, List.getElem?_cons_zero, List.getElem?_cons_succ, Option.isSome_none, Option.isSome_some , hload, hstore, List.length_cons, List.length_nil, Nat.reduceAdd, Nat.reduceLeDiff, decide_true, List.all_cons, List.all_nil, one, Bool.and_true, Bool.true_and, Bool.and_self, splice, List.set_cons_zero, List.set_cons_succ, List.getElem?_cons_zero, List.getElem?_cons_succ, vc_int, vc_slice, vc_str, vc_bool, vc_int', vc_slice', vc_str', vc_bool', List.length_set, List.length_append, Nat.lt_irrefl, Nat.lt_add_one, and_self, true_and, and_true, lenV, cellsOfSlice, Nat.le_refl, if_true , hc, ne_eq, not_false_eq_true]
        | succ j =>
          have hi : l.length - (j + 1) < l.length := by omega
          obtain ⟨f, hfi⟩ : ∃ f, l[l.length - (j + 1)]? = some f := ⟨_, List.getElem?_eq_getElem hi⟩
          have hfm := List.mem_of_getElem? hfi
          obtain ⟨q, rfl, rfl, hqN, hq1⟩ := hlb _ f hfi
          have g0 : ((l.length - (j + 1) : Nat) : Int) < (l.length : Int) := by omega
          have g1 : (0 : Int) ≤ ((l.length - (j + 1) : Nat) : Int) ∧ ((l.length - (j + 1) : Nat) : Int) < (l.length : Int) := by omega
          have g2 : (l.length - (j + 1)) * 4 + 4 ≤ (flat l).length := by rw [flat_length]; omega
          have g3 := flat_get l _ f hfi
          have g4 : IntKind.i64.wrap (((l.length - (j + 1) : Nat) : Int) + 1) = ((l.length - j : Nat) : Int) := by rw [wrap_i64 (by omega) (by omega)]; omega
          have g5 : f.cells.toArray = #[.int .i64 f.kind, .int .i64 f.width, .int .i64 f.n, .string f.s] := rfl
          have hfo : f.Ok := ⟨(hok f hfm).1, (hok f hfm).2.1, (hok f hfm).2.2, Nat.le_trans (hsh f hfm) (by decide)⟩
          simp only [↓RW_seq, ↓AW_ret, ↓AW_skip, ↓AW_exit, ↓AW_block, ↓RW_cond, ↓RW_reg, ↓RW_regd, ↓RO_op, ↓RO_t, ↓RO_f, ↓RO_nt, ↓RO_nf, ↓AO_nil, ↓RD_op, ↓RD_t, ↓RD_f, ↓RD_nt, ↓RD_fe, ↓RD_nte, ↓RD_nf, ↓AOD_nil, CDops_eff, CDops_no, CDops_1, CDops_2, Again_nil, Again_cons, Same1_int, Same1_bool, Same1_str, Same1_ptr, Same1_slice, Same1_nil, CSeq_ap, CReg_ap, COps_ap, Then_normal, Then_ret, Then_exit, InBlock_normal, InBlock_ret, InBlock_self, InBlock_exit, Ends_ret, Ends_normal, ares, tup, finO_some, fin_same, fin_false, argsE, dval, aop, ev, evs, evo, evp, fillL, addrOf, intOf?, lk_put, lk_none, lk_cons, lk_nil, keep_nil, keep_cons, Op1_some, Option.map_some, Option.bind_some, reduceIte, Nat.reduceEqDiff, binV_lss, binV_leq, binV_gtr, binV_geq, binV_eql, binV_neq, binV_add, binV_sub, binV_mul, un_not, CondA_false, CondA_true, Bool.not_true, Bool.not_false, reduceCtorEq, decide_true, decide_false, Nat.add_zero, Nat.zero_add, Nat.reduceAdd, Nat.reduceMul, Bool.bne_false, Bool.bne_true, eqPtr, Option.isNone_some, Option.isNone_none, List.getElem?_cons_zero, List.getElem?_cons_succ, Option.isSome_none, Option.isSome_some , hload, hstore, List.length_cons, List.length_nil, Nat.reduceAdd, Nat.reduceLeDiff, decide_true, List.all_cons, List.all_nil, one, Bool.and_true, Bool.true_and, Bool.and_self, splice, List.set_cons_zero, List.set_cons_succ, List.getElem?_cons_zero, List.getElem?_cons_succ, vc_int, vc_slice, vc_str, vc_bool, vc_int', vc_slice', vc_str', vc_bool', List.length_set, List.length_append, Nat.lt_irrefl, Nat.lt_add_one, and_self, true_and, and_true, lenV, cellsOfSlice, Nat.le_refl, if_true , g0, g1, Int.toNat_natCast, hq1, g2, g3, g5, vc_agg', size4, hget_append_self, set_last, take4, list4]
          have hrG : RSt (H2 ++ [some ⟨true, [.int .i64 f.kind, .int .i64 f.width, .int .i64 f.n, .string f.s]⟩]) H1.length r := by
            unfold RSt; rw [hget_append_lt hr.lt]; exact hr
          refine read_spec (f := f) hrG hro hfo fun H3 hr3 hf3 => ?_
          have hro3 := read_ok hro f
          have hxo := read_fok hro hfo
          have hrw := read_write (f := f) hrs hro
          have hlb3 : LB H3 (some ⟨q, 0, none⟩) 4 l H.length := (hlb.frame (O := []) ((Frm.refl _ _).push _) (by simp)).frame hf3 (by simpa using hp0)
          have hw3 : WSt H3 (H1.length + 1) o w.bs w.err := (hw.push _).frame hf3 (by simp) (fun q' hq' => by have := ho q' hq'; simp; omega)
          have hrs3 : (r.read f).2.s.size ≤ 300 := by rw [read_s]; exact hrs
          generalize hx : r.read f = x at *
          obtain ⟨x, r'⟩ := x
          simp only at hr3 hro3 hxo hrw hrs3
          simp only [↓RW_seq, ↓AW_ret, ↓AW_skip, ↓AW_exit, ↓AW_block, ↓RW_cond, ↓RW_reg, ↓RW_regd, ↓RO_op, ↓RO_t, ↓RO_f, ↓RO_nt, ↓RO_nf, ↓AO_nil, ↓RD_op, ↓RD_t, ↓RD_f, ↓RD_nt, ↓RD_fe, ↓RD_nte, ↓RD_nf, ↓AOD_nil, CDops_eff, CDops_no, CDops_1, CDops_2, Again_nil, Again_cons, Same1_int, Same1_bool, Same1_str, Same1_ptr, Same1_slice, Same1_nil, CSeq_ap, CReg_ap, COps_ap, Then_normal, Then_ret, Then_exit, InBlock_normal, InBlock_ret, InBlock_self, InBlock_exit, Ends_ret, Ends_normal, ares, tup, finO_some, fin_same, fin_false, argsE, dval, aop, ev, evs, evo, evp, fillL, addrOf, intOf?, lk_put, lk_none, lk_cons, lk_nil, keep_nil, keep_cons, Op1_some, Option.map_some, Option.bind_some, reduceIte, Nat.reduceEqDiff, binV_lss, binV_leq, binV_gtr, binV_geq, binV_eql, binV_neq, binV_add, binV_sub, binV_mul, un_not, CondA_false, CondA_true, Bool.not_true, Bool.not_false, reduceCtorEq, decide_true, decide_false, Nat.add_zero, Nat.zero_add, Nat.reduceAdd, Nat.reduceMul, Bool.bne_false, Bool.bne_true, eqPtr, Option.isNone_some, Option.isNone_none, List.getElem?_cons_zero, List.getElem?_cons_succ, Option.isSome_none, Option.isSome_some , hload, hstore, List.length_cons, List.length_nil, Nat.reduceAdd, Nat.reduceLeDiff, decide_true, List.all_cons, List.all_nil, one, Bool.and_true, Bool.true_and, Bool.and_self, splice, List.set_cons_zero, List.set_cons_succ, List.getElem?_cons_zero, List.getElem?_cons_succ, vc_int, vc_slice, vc_str, vc_bool, vc_int', vc_slice', vc_str', vc_bool', List.length_set, List.length_append, Nat.lt_irrefl, Nat.lt_add_one, and_self, true_and, and_true, lenV, cellsOfSlice, Nat.le_refl, if_true , Fld.v, vc_agg', size4, hget_append_self, set_last, take4, list4]
          have hwl3 := hget_lt hw3.ex.choose_spec.1.blk
          refine write_spec (f := x) (hw3.push _) hwlen hxo fun H4 o4 k1 k2 k3 => ?_
          simp only [↓RW_seq, ↓AW_ret, ↓AW_skip, ↓AW_exit, ↓AW_block, ↓RW_cond, ↓RW_reg, ↓RW_regd, ↓RO_op, ↓RO_t, ↓RO_f, ↓RO_nt, ↓RO_nf, ↓AO_nil, ↓RD_op, ↓RD_t, ↓RD_f, ↓RD_nt, ↓RD_fe, ↓RD_nte, ↓RD_nf, ↓AOD_nil, CDops_eff, CDops_no, CDops_1, CDops_2, Again_nil, Again_cons, Same1_int, Same1_bool, Same1_str, Same1_ptr, Same1_slice, Same1_nil, CSeq_ap, CReg_ap, COps_ap, Then_normal, Then_ret, Then_exit, InBlock_normal, InBlock_ret, InBlock_self, InBlock_exit, Ends_ret, Ends_normal, ares, tup, finO_some, fin_same, fin_false, argsE, dval, aop, ev, evs, evo, evp, fillL, addrOf, intOf?, lk_put, lk_none, lk_cons, lk_nil, keep_nil, keep_cons, Op1_some, Option.map_some, Option.bind_some, reduceIte, Nat.reduceEqDiff, binV_lss, binV_leq, binV_gtr, binV_geq, binV_eql, binV_neq, binV_add, binV_sub, binV_mul, un_not, CondA_false, CondA_true, Bool.not_true, Bool.not_false, reduceCtorEq, decide_true, decide_false, Nat.add_zero, Nat.zero_add, Nat.reduceAdd, Nat.reduceMul, Bool.bne_false, Bool.bne_true, eqPtr, Option.isNone_some, Option.isNone_none, List.getElem?_cons_zero, List.getElem?_cons_succ, Option.isSome_none, Option.isSome_some , hload, hstore, List.length_cons, List.length_nil, Nat.reduceAdd, Nat.reduceLeDiff, decide_true, List.all_cons, List.all_nil, one, Bool.and_true, Bool.true_and, Bool.and_self, splice, List.set_cons_zero, List.set_cons_succ, List.getElem?_cons_zero, List.getElem?_cons_succ, vc_int, vc_slice, vc_str, vc_bool, vc_int', vc_slice', vc_str', vc_bool', List.length_set, List.length_append, Nat.lt_irrefl, Nat.lt_add_one, and_self, true_and, and_true, lenV, cellsOfSlice, Nat.le_refl, if_true , g4]
          refine ⟨j, by omega, by omega, rfl, r', o4, w.write x, ?_, hro3, hrs3, k1, write_len hwlen, fun q4 hq4 => ?_, fun he => ?_, ?_⟩
          · unfold RSt; rw [k2.2 _ (by simp; have := hr3.lt; omega) (fun hm => ?_), hget_append_lt hr3.lt]
            · exact hr3
            · rcases List.mem_cons.1 hm with hm | hm
              · omega
              · have := ho _ (by simpa [Option.mem_toList] using hm); omega
          · rcases k3 q4 hq4 with h | h
            · exact ho q4 h
            · simp at h; omega
          · obtain ⟨e1, e2, e3⟩ := hrw he
            obtain ⟨d1, d2⟩ := hsame e1
            refine ⟨by rw [e2, d1], ?_⟩
            rw [d2, ← d1]; exact e3
          · refine (hlb3.frame (O := []) ((Frm.refl _ _).push _) (by simp)).frame k2 fun i hi => ?_
            rcases List.mem_cons.1 hi with rfl | hi
            · omega
            · have := ho i (by simpa [Option.mem_toList] using hi); omega

end Go.Proofs.Ytlbhbjaimcinbaa.AI

/- Each function of the program is that of the interpreter's table. -/
namespace Go.Proofs.Ytlbhbjaimcinbaa.AI
open Go

def sigL : List (Nat × Nat) := [(3, 3), (4, 4), (5, 5), (6, 6), (7, 7), (8, 8), (9, 9), (10, 10), (11, 11), (12, 12), (13, 13), (14, 14), (15, 15), (16, 16), (17, 17), (18, 18), (19, 19), (20, 20), (21, 21), (22, 22), (23, 23), (24, 24), (25, 25), (26, 26), (27, 27), (28, 28), (29, 29), (30, 30), (31, 31), (32, 32), (33, 33), (34, 34), (35, 35), (36, 36), (37, 37), (38, 38), (39, 39), (40, 40), (41, 41), (42, 42), (43, 43), (44, 44), (45, 45), (46, 46), (47, 47), (48, 48), (49, 49), (50, 50), (51, 51), (52, 52), (53, 53), (54, 54), (55, 55), (56, 56), (57, 57), (58, 58), (59, 59), (60, 60), (61, 61)]
def sig (n : Nat) : Nat := num sigL n
def tauL : List (Nat × Nat) := [(3, 3), (4, 4), (5, 5), (6, 6), (7, 7), (8, 8), (9, 9), (10, 10), (11, 11), (12, 12), (13, 13), (14, 14), (15, 15), (16, 16), (17, 17), (18, 18), (19, 19), (20, 20), (21, 21), (22, 22), (23, 23), (24, 24), (25, 25), (26, 26), (27, 27), (28, 28), (29, 29), (30, 30), (31, 31), (32, 32), (33, 33), (34, 34), (35, 35), (36, 36), (37, 37), (38, 38), (39, 39), (40, 40), (41, 41), (42, 42), (43, 43), (44, 44), (45, 45), (46, 46), (47, 47), (48, 48), (49, 49), (50, 50), (51, 51), (52, 52), (53, 53), (54, 54), (55, 55), (56, 56), (57, 57), (58, 58), (59, 59), (60, 60), (61, 61)]
def tau (n : Nat) : Nat := num tauL n

theorem link3 : compF Try.prog tau sig (find [(0, [0]), (1, [0, 12]), (2, [2]), (3, [0, 15]), (4, [2]), (5, [0, 3, 4]), (6, [0, 3, 4, 19]), (7, [2]), (8, [3, 4, 20, 21, 22]), (9, [3, 4, 20, 21, 22, 23]), (10, [3, 4, 6, 20, 21, 22]), (11, [3, 4, 6, 20, 21, 22]), (12, [3, 4, 20, 21, 22]), (13, [3, 4, 7, 8, 20, 21, 22]), (14, [3, 4, 7, 8, 9, 10, 20, 21, 22]), (15, [3, 4, 20, 21, 22, 56]), (16, [2]), (17, [3, 4, 20, 21, 22]), (18, [2])]) (findO []) Try.f3 false false = some F3 := by kernel_rfl
theorem link4 : compF Try.prog tau sig (find [(0, [0, 1]), (1, [0, 1, 13]), (2, [4]), (3, [0, 1, 21]), (4, [4]), (5, [0, 1, 5, 6]), (6, [0, 1, 5, 6, 30]), (7, [4]), (8, [0, 5, 6, 31, 32, 33]), (9, [0, 5, 6, 31, 32, 33, 34]), (10, [0, 5, 6, 8, 31, 32, 33]), (11, [0, 5, 6, 9, 31, 32, 33]), (12, [0, 5, 6, 31, 32, 33]), (13, [0, 5, 6, 31, 32, 33]), (14, [0, 6, 46]), (15, [4]), (16, [0, 10, 11]), (17, [4])]) (findO []) Try.f4 false false = some F4 := by kernel_rfl
theorem link5 : compF Try.prog tau sig (find [(0, [0]), (1, [0, 11]), (2, [2]), (3, [0, 3]), (4, [0, 3, 15]), (5, [2]), (6, [0, 3, 23]), (7, [2]), (8, [0, 3, 4, 5]), (9, [0, 3, 4, 5, 31]), (10, [2]), (11, [0, 3, 4, 5]), (12, [0, 3, 4, 5, 7]), (13, [0, 3, 5, 48]), (14, [2]), (15, [0, 3, 5, 50]), (16, [2]), (17, [5]), (18, [5, 9]), (19, [2])]) (findO []) Try.f5 false false = some F5 := by kernel_rfl
theorem link6 : compF Try.prog tau sig (find [(0, [0, 1]), (1, [0, 1, 15]), (2, [4]), (3, [1, 5]), (4, [1, 5, 6, 7]), (5, [1, 5, 6, 7, 27]), (6, [4]), (7, [1, 5, 6, 7]), (8, [1, 5, 7, 8, 9]), (9, [1, 5, 7, 8, 9, 49]), (10, [4]), (11, [1, 5, 7, 8, 9, 10]), (12, [1, 5, 7, 8, 9, 10, 58]), (13, [1, 5, 7, 8, 9, 10]), (14, [1, 5, 7, 8, 9]), (15, [1, 5, 8, 9, 11, 12]), (16, [1, 5, 8, 9, 11, 12, 13]), (17, [4])]) (findO []) Try.f6 false false = some F6 := by kernel_rfl
theorem link7 : compF Try.prog tau sig (find [(0, [0, 1]), (1, [0, 1, 12]), (2, [4]), (3, [0, 1, 20]), (4, [4]), (5, [1, 5, 6]), (6, [1, 5, 6, 26]), (7, [4]), (8, [5, 6, 27, 28, 29]), (9, [5, 6, 27, 28, 29, 30]), (10, [5, 6, 8, 27, 28, 29]), (11, [5, 6, 8, 9, 27, 28, 29]), (12, [5, 6, 8, 9, 10, 27, 28, 29]), (13, [5, 6, 8, 9, 10, 27, 28, 29, 38]), (14, [5, 6, 8, 9, 10, 27, 28, 29, 38, 39]), (15, [5, 6, 9, 10, 27, 28, 29]), (16, [5, 6, 8, 9, 10, 27, 28, 29, 38, 47]), (17, [5, 6, 9, 10, 27, 28, 29]), (18, [5, 6, 8, 9, 10, 27, 28, 29, 38, 55]), (19, [5, 6, 9, 10, 27, 28, 29]), (20, [5, 6, 9, 10, 27, 28, 29, 61]), (21, [5, 6, 9, 10, 27, 28, 29]), (22, [5, 6, 8, 9, 10, 27, 28, 29, 63]), (23, [5, 6, 9, 10, 27, 28, 29]), (24, [5, 6, 27, 28, 29, 94]), (25, [4]), (26, [5, 6, 27, 28, 29]), (27, [4])]) (findO []) Try.f7 false false = some F7 := by kernel_rfl
theorem link8 : compF Try.prog tau sig (find [(0, [0]), (1, [0, 13]), (2, [2]), (3, [0, 16]), (4, [2]), (5, [0, 3]), (6, [0, 3, 19]), (7, [2]), (8, [0, 3, 20, 21, 22]), (9, [0, 3, 20, 21, 22, 23]), (10, [0, 3, 5, 20, 21, 22]), (11, [0, 3, 20, 21, 22]), (12, [0, 3, 20, 21, 22]), (13, [0, 3, 6, 7]), (14, [0, 3, 6, 36]), (15, [2]), (16, [0, 3, 6, 45]), (17, [2]), (18, [0, 3, 6, 8]), (19, [0, 3, 6, 8, 49]), (20, [2]), (21, [3, 6, 8, 50, 51, 52]), (22, [3, 6, 8, 50, 51, 52, 53]), (23, [3, 6, 8, 10, 50, 51, 52]), (24, [3, 6, 8, 10, 50, 51, 52, 63]), (25, [3, 6, 8, 10, 11, 50, 51, 52]), (26, [3, 6, 8, 50, 51, 52, 107]), (27, [2]), (28, [3, 6, 8, 50, 51, 52]), (29, [2])]) (findO []) Try.f8 false false = some F8 := by kernel_rfl
theorem link9 : compF Try.prog tau sig (find [(0, [0, 1]), (1, [0, 1, 11]), (2, [4]), (3, [0, 1, 19]), (4, [4]), (5, [1, 5]), (6, [1, 5, 23]), (7, [4]), (8, [1, 5, 6]), (9, [5, 6, 24, 25, 26]), (10, [5, 6, 24, 25, 26, 27]), (11, [5, 6, 8, 24, 25, 26]), (12, [5, 6, 8, 9, 24, 25, 26]), (13, [5, 24, 25, 26, 60]), (14, [4]), (15, [5, 6, 24, 25, 26]), (16, [5, 6, 24, 25, 26, 75]), (17, [4]), (18, [5, 6, 24, 25, 26]), (19, [4])]) (findO []) Try.f9 false false = some F9 := by kernel_rfl
theorem link10 : compF Try.prog tau sig (find [(0, [0]), (1, [0, 12]), (2, [2]), (3, [0, 3]), (4, [0, 3, 15]), (5, [2]), (6, [0, 3, 4]), (7, [0, 3, 4, 5]), (8, [0, 3, 4, 5, 18]), (9, [0, 3, 4, 5, 18, 19]), (10, [0, 3, 4, 5, 18]), (11, [0, 3, 4, 5, 18]), (12, [0, 3, 4, 5, 18]), (13, [0, 3, 4, 28]), (14, [0, 3, 4]), (15, [0, 3, 4]), (16, [0, 3, 4, 6]), (17, [3, 4, 6, 7]), (18, [3, 4, 6, 7]), (19, [3, 4, 6, 7, 8, 9]), (20, [3, 4, 7, 8, 9, 49]), (21, [2]), (22, [3, 4, 7, 8, 9, 10]), (23, [2])]) (findO []) Try.f10 false false = some F10 := by kernel_rfl
theorem link11 : compF Try.prog tau sig (find [(0, []), (1, [1]), (2, [1, 7]), (3, [0]), (4, [1]), (5, [1]), (6, [1]), (7, [1]), (8, [1, 2, 3]), (9, [1, 2, 3, 4]), (10, [1, 2, 3, 4, 23]), (11, [0]), (12, [0])]) (findO []) Try.f11 true true = some F11 := by kernel_rfl
theorem link12 : compF Try.prog tau sig (find [(0, [0]), (1, [0, 7]), (2, [2]), (3, [8, 9, 10]), (4, [8, 9, 10, 11]), (5, [4, 8, 9, 10]), (6, [8, 9, 10, 17]), (7, [2]), (8, [8, 9, 10]), (9, [2])]) (findO []) Try.f12 false false = some F12 := by kernel_rfl
theorem link13 : compF Try.prog tau sig (find [(0, []), (1, [0])]) (findO []) Try.f13 false false = some F13 := by kernel_rfl
theorem link14 : compF Try.prog tau sig (find [(0, []), (1, [0])]) (findO []) Try.f14 false false = some F14 := by kernel_rfl
theorem link15 : compF Try.prog tau sig (find [(0, [0, 3]), (1, [0, 3, 5]), (2, [0, 3, 5, 6]), (3, []), (4, [0, 3, 5, 14]), (5, []), (6, [0, 3, 5, 22]), (7, []), (8, [0, 3, 29]), (9, [])]) (findO []) Try.f15 false false = some F15 := by kernel_rfl
theorem link16 : compF Try.prog tau sig (find [(0, [0, 3]), (1, [0, 3, 5]), (2, [0, 3, 5, 6]), (3, []), (4, [0, 3, 5, 14]), (5, []), (6, [0, 3, 5, 22]), (7, []), (8, [0, 3, 29]), (9, [])]) (findO []) Try.f16 false false = some F16 := by kernel_rfl
theorem link17 : compF Try.prog tau sig (find [(0, [0]), (1, [0, 8]), (2, [2, 3]), (3, [2, 3])]) (findO [(2, [(0, 0), (1, 0), (2, 0), (3, 0), (4, 0), (5, 0)])]) Try.f17 false false = some F17 := by kernel_rfl
theorem link18 : compF Try.prog tau sig (find [(0, [0]), (1, [0, 10]), (2, [2, 3]), (3, [0, 4]), (4, [0, 4, 5]), (5, [0, 4, 5, 29]), (7, [0, 4, 5]), (6, [0, 4, 5]), (8, [2, 3])]) (findO [(2, [(0, 0), (1, 0), (2, 0), (3, 0), (4, 0), (5, 0)]), (7, [(0, 0), (1, 0), (2, 0), (3, 0), (4, 0), (5, 0), (6, 0), (7, 0), (8, 0), (9, 0), (10, 0), (11, 0), (12, 0), (13, 0), (14, 0), (15, 0), (16, 0), (17, 0), (18, 0), (19, 0), (20, 0), (21, 0)])]) Try.f18 false false = some F18 := by kernel_rfl
theorem link19 : compF Try.prog tau sig (find [(0, [0]), (1, [2])]) (findO []) Try.f19 false false = some F19 := by kernel_rfl
theorem link20 : compF Try.prog tau sig (find [(0, [0]), (1, [2])]) (findO []) Try.f20 false false = some F20 := by kernel_rfl
theorem link21 : compF Try.prog tau sig (find [(0, [0]), (1, [0, 5]), (2, [2]), (3, [2])]) (findO []) Try.f21 false false = some F21 := by kernel_rfl
theorem link22 : compF Try.prog tau sig (find [(0, [0, 3, 4]), (1, [0, 3, 4, 6]), (2, [0, 3, 4, 6, 7]), (3, [3, 4]), (4, [0, 3, 4, 6, 15]), (5, [3, 4]), (6, [0, 3, 4, 6, 23]), (7, [0, 3, 4]), (8, [3, 4, 29]), (9, [3, 4]), (10, [0, 3, 4, 31]), (11, [3, 4]), (12, [4])]) (findO []) Try.f22 false false = some F22 := by kernel_rfl
theorem link23 : compF Try.prog tau sig (find [(0, [1]), (1, [1, 8]), (2, [2]), (3, [1, 3]), (4, [20]), (5, [2]), (6, [2])]) (findO []) Try.f23 false false = some F23 := by kernel_rfl
theorem link24 : compF Try.prog tau sig (find [(0, [0]), (1, [0, 4]), (2, [2]), (3, [2])]) (findO []) Try.f24 true true = some F24 := by kernel_rfl
theorem link25 : compF Try.prog tau sig (find [(0, [0, 1, 2, 6]), (1, [])]) (findO []) Try.f25 false false = some F25 := by kernel_rfl
theorem link26 : compF Try.prog tau sig (find [(0, [0, 1, 2, 6]), (1, [])]) (findO []) Try.f26 false false = some F26 := by kernel_rfl
theorem link27 : compF Try.prog tau sig (find [(0, [0, 1]), (1, [0, 1, 5]), (2, [1, 5, 28]), (3, [5]), (4, [4])]) (findO []) Try.f27 false false = some F27 := by kernel_rfl
theorem link28 : compF Try.prog tau sig (find [(0, [0]), (1, [0, 5]), (2, [2]), (3, [2])]) (findO []) Try.f28 false false = some F28 := by kernel_rfl
theorem link29 : compF Try.prog tau sig (find [(0, [0, 1]), (1, [0, 1, 17]), (2, [0, 1]), (3, [4])]) (findO []) Try.f29 false false = some F29 := by kernel_rfl
theorem link30 : compF Try.prog tau sig (find [(0, [0, 1]), (1, [0, 1, 18]), (2, [0, 1]), (3, [0, 1, 5]), (4, [1, 5, 35]), (5, [5]), (6, [4])]) (findO [(5, [(0, 0), (1, 0), (2, 0), (3, 0), (4, 0), (5, 0), (6, 0), (7, 0), (8, 0), (9, 0)])]) Try.f30 false false = some F30 := by kernel_rfl
theorem link31 : compF Try.prog tau sig (find [(0, [0]), (1, [2])]) (findO []) Try.f31 false false = some F31 := by kernel_rfl
theorem link32 : compF Try.prog tau sig (find [(0, [0, 1]), (1, [0, 1, 20]), (2, [0, 1]), (3, [0, 1, 5]), (4, [0, 5, 36]), (5, [0, 5]), (6, [0, 5, 50]), (7, [0, 5]), (8, [0, 5, 57]), (9, [4]), (10, [0, 5, 6]), (11, [0, 5, 6, 7]), (12, [0, 5, 6, 7, 62]), (14, [0, 5, 6, 7]), (13, [0, 5, 6, 7]), (15, [4])]) (findO []) Try.f32 false false = some F32 := by kernel_rfl
theorem link33 : compF Try.prog tau sig (find [(0, [0]), (1, [0, 7]), (2, [2]), (3, [2])]) (findO [(3, [(0, 0), (1, 0), (2, 0), (3, 0), (4, 0), (5, 0), (6, 0), (7, 0), (8, 0), (9, 0), (10, 0), (11, 0)])]) Try.f33 false false = some F33 := by kernel_rfl
theorem link34 : compF Try.prog tau sig (find [(0, [0]), (1, [2])]) (findO [(1, [(0, 0), (1, 0), (2, 0), (3, 0), (4, 0), (5, 0), (6, 0), (7, 0), (8, 0), (9, 0), (10, 0), (11, 0)])]) Try.f34 false false = some F34 := by kernel_rfl
theorem link35 : compF Try.prog tau sig (find [(0, [0]), (1, [2])]) (findO []) Try.f35 false false = some F35 := by kernel_rfl
theorem link36 : compF Try.prog tau sig (find [(0, [0]), (1, [2])]) (findO []) Try.f36 false false = some F36 := by kernel_rfl
theorem link37 : compF Try.prog tau sig (find [(0, [0]), (1, [0, 8]), (2, [2]), (3, [0, 15]), (4, [2]), (5, [0, 3]), (6, [0, 3, 27]), (8, [0, 3, 43]), (9, [2]), (7, [0, 3]), (10, [2])]) (findO []) Try.f37 false false = some F37 := by kernel_rfl
theorem link38 : compF Try.prog tau sig (find [(6, [0, 1, 2, 26]), (7, [0, 1, 2, 32]), (8, []), (9, [0, 1, 2, 39]), (10, []), (0, [0, 2]), (1, [0, 2, 15, 16]), (2, [0, 2, 15, 16, 17]), (3, [0, 2, 6, 15, 16]), (4, [0, 2, 15, 16]), (5, [0, 2, 15, 16])]) (findO [(9, [(0, 0), (1, 0), (2, 0), (3, 0), (4, 0), (5, 0), (6, 0), (7, 0), (9, 0), (10, 0), (8, 1), (11, 0), (12, 0), (13, 0), (14, 0), (15, 0), (16, 0), (17, 0), (18, 0)])]) Try.f38 false false = some F38 := by kernel_rfl
theorem link39 : compF Try.prog tau sig (find [(0, [0, 1, 4]), (1, [0, 4, 5]), (2, [0, 4]), (3, [])]) (findO []) Try.f39 false false = some F39 := by kernel_rfl
theorem link40 : compF Try.prog tau sig (find [(0, [0, 1]), (1, [4])]) (findO []) Try.f40 false false = some F40 := by kernel_rfl
theorem link41 : compF Try.prog tau sig (find [(0, [0]), (1, [2])]) (findO []) Try.f41 false false = some F41 := by kernel_rfl
theorem link42 : compF Try.prog tau sig (find [(0, [0, 1]), (1, [0, 1, 5]), (2, [0, 1, 5, 16]), (3, [4]), (4, [0, 5, 22]), (5, []), (6, [4]), (7, [0, 5, 28]), (8, []), (9, [4]), (10, [5, 6]), (11, [6, 7]), (12, [6, 7, 41, 42]), (13, [6, 7, 41, 42, 43]), (14, [6, 7, 8, 41, 42]), (15, [6, 7, 41, 42]), (16, [6, 7, 41, 42]), (17, [4])]) (findO []) Try.f42 false false = some F42 := by kernel_rfl
theorem link43 : compF Try.prog tau sig (find [(0, [0, 1, 2, 10]), (1, [0, 1, 2, 16]), (2, []), (3, [0, 1, 2, 31]), (4, []), (5, [0, 1, 2, 37]), (6, [])]) (findO []) Try.f43 false false = some F43 := by kernel_rfl
theorem link44 : compF Try.prog tau sig (find [(0, [0, 1, 2, 10]), (1, [0, 1, 2, 16]), (2, []), (3, [0, 1, 2, 33]), (4, []), (5, [0, 1, 2, 39]), (6, [])]) (findO []) Try.f44 false false = some F44 := by kernel_rfl
theorem link45 : compF Try.prog tau sig (find [(0, [0, 1, 6]), (1, [0, 7]), (2, []), (3, [])]) (findO []) Try.f45 false false = some F45 := by kernel_rfl
theorem link46 : compF Try.prog tau sig (find [(0, [0, 1, 2, 11]), (1, [0, 1, 2, 17]), (2, []), (3, [0, 1, 2, 24]), (4, []), (5, [0, 1, 2, 36]), (6, [0, 2]), (7, [0, 2, 6]), (8, [0, 2, 6, 46]), (10, [0, 2, 6]), (9, [0, 2, 6])]) (findO []) Try.f46 false false = some F46 := by kernel_rfl
theorem link47 : compF Try.prog tau sig (find [(0, [0]), (1, [0, 2]), (2, [1])]) (findO []) Try.f47 false false = some F47 := by kernel_rfl
theorem link48 : compF Try.prog tau sig (find [(0, [0, 1]), (1, [0, 1, 5]), (2, [0, 5, 6, 7]), (3, [0, 5, 6, 7, 8]), (4, [0, 5, 6, 7]), (5, [0, 5, 6, 7]), (6, [0, 5, 6, 7]), (7, [4])]) (findO [(4, [(0, 0), (1, 0), (2, 0), (3, 0), (4, 0), (5, 0), (6, 0), (7, 0), (8, 0), (9, 0), (10, 0), (11, 0), (12, 0), (13, 0), (14, 0), (15, 0), (16, 0), (17, 0), (18, 0), (19, 0), (20, 0), (21, 0), (22, 0)])]) Try.f48 false false = some F48 := by kernel_rfl
theorem link49 : compF Try.prog tau sig (find [(0, [0]), (1, [2]), (2, [2])]) (findO []) Try.f49 true true = some F49 := by kernel_rfl
theorem link50 : compF Try.prog tau sig (find [(1, [0, 1, 2, 3, 4, 15]), (2, [0, 2, 3, 4, 21]), (3, []), (4, [0, 3, 4, 27]), (5, []), (6, [0, 3, 4, 33]), (7, []), (0, [])]) (findO []) Try.f50 false false = some F50 := by kernel_rfl
theorem link51 : compF Try.prog tau sig (find [(0, [0, 1, 2]), (2, [0, 1, 2, 10]), (3, [0, 2, 16]), (4, []), (5, [0, 2, 21]), (6, []), (1, [6]), (7, [6])]) (findO []) Try.f51 false false = some F51 := by kernel_rfl
theorem link52 : compF Try.prog tau sig (find [(0, [0]), (1, [0]), (2, [])]) (findO []) Try.f52 false false = some F52 := by kernel_rfl
theorem link53 : compF Try.prog tau sig (find [(0, [0, 1]), (1, [0, 1, 11]), (2, [4]), (3, [0, 1, 15]), (4, []), (5, [4]), (6, [0, 1, 5]), (7, [0, 1, 5, 6]), (8, [0, 1, 5, 6, 20]), (10, [0, 1, 5, 6]), (11, [0, 1, 5, 6]), (9, [0, 1, 5, 6]), (12, [4])]) (findO [(10, [(0, 0), (1, 0), (2, 0), (3, 0), (4, 0), (5, 0), (6, 0), (7, 0), (8, 0), (9, 0), (10, 0), (11, 0), (12, 0), (13, 0), (14, 0), (15, 0), (16, 0), (17, 0), (18, 0), (19, 0), (20, 0), (21, 0), (22, 0)])]) Try.f53 false false = some F53 := by kernel_rfl
theorem link54 : compF Try.prog tau sig (find [(0, [0]), (1, [0, 5]), (2, [2]), (3, [0, 3]), (4, [0, 3, 7]), (5, [0, 3]), (6, [0, 3]), (7, [2])]) (findO []) Try.f54 true true = some F54 := by kernel_rfl
theorem link55 : compF Try.prog tau sig (find [(0, [0]), (1, [2])]) (findO []) Try.f55 true true = some F55 := by kernel_rfl
theorem link56 : compF Try.prog tau sig (find [(0, [0, 2, 6]), (1, [0, 2, 6, 10]), (3, [0, 2, 6, 18]), (4, [0, 2, 6]), (5, [0, 2, 6]), (6, [0, 2, 6]), (2, [0, 2, 6])]) (findO [(5, [(0, 0), (1, 0), (2, 0), (3, 0), (4, 0), (5, 0), (6, 0), (7, 0), (8, 0), (9, 0), (10, 0), (11, 0), (12, 0), (13, 0), (14, 0), (15, 0), (16, 0), (17, 0), (18, 0), (19, 0), (20, 0), (21, 0), (22, 0), (23, 0), (24, 0), (25, 0)])]) Try.f56 false false = some F56 := by kernel_rfl
theorem link57 : compF Try.prog tau sig (find [(0, [0, 1, 8]), (1, [])]) (findO []) Try.f57 false false = some F57 := by kernel_rfl
theorem link58 : compF Try.prog tau sig (find [(0, [0, 1]), (1, [0, 19]), (2, [0]), (3, [4])]) (findO []) Try.f58 false false = some F58 := by kernel_rfl
theorem link59 : compF Try.prog tau sig (find [(0, [0, 2, 6]), (1, [0, 2, 6, 10]), (3, [0, 2, 6]), (2, [0, 2, 6])]) (findO [(3, [(0, 0), (1, 0), (2, 0), (3, 0), (5, 0), (6, 0), (7, 0), (8, 0), (9, 0), (10, 0), (4, 1), (11, 0), (12, 0), (13, 0), (14, 0)])]) Try.f59 false false = some F59 := by kernel_rfl
theorem link60 : compF Try.prog tau sig (find [(0, [0, 2]), (1, [0, 2, 4]), (2, [0]), (3, [0, 2]), (4, [0, 2, 8]), (5, [0, 2]), (6, [0, 2]), (7, [2])]) (findO []) Try.f60 true true = some F60 := by kernel_rfl
theorem link61 : compF Try.prog tau sig (find [(0, [0, 2]), (1, [0, 2, 4]), (2, [0]), (3, [0, 2]), (4, [0, 2, 8]), (5, [0, 2]), (6, [0, 2]), (7, [0, 2, 14]), (8, [0, 2]), (9, [0, 2]), (10, [2])]) (findO []) Try.f61 true true = some F61 := by kernel_rfl

theorem at3 : Try.prog.funcs[sig 3]? = some Try.f3 := by kernel_rfl
theorem at4 : Try.prog.funcs[sig 4]? = some Try.f4 := by kernel_rfl
theorem at5 : Try.prog.funcs[sig 5]? = some Try.f5 := by kernel_rfl
theorem at6 : Try.prog.funcs[sig 6]? = some Try.f6 := by kernel_rfl
theorem at7 : Try.prog.funcs[sig 7]? = some Try.f7 := by kernel_rfl
theorem at8 : Try.prog.funcs[sig 8]? = some Try.f8 := by kernel_rfl
theorem at9 : Try.prog.funcs[sig 9]? = some Try.f9 := by kernel_rfl
theorem at10 : Try.prog.funcs[sig 10]? = some Try.f10 := by kernel_rfl
theorem at11 : Try.prog.funcs[sig 11]? = some Try.f11 := by kernel_rfl
theorem at12 : Try.prog.funcs[sig 12]? = some Try.f12 := by kernel_rfl
theorem at13 : Try.prog.funcs[sig 13]? = some Try.f13 := by kernel_rfl
theorem at14 : Try.prog.funcs[sig 14]? = some Try.f14 := by kernel_rfl
theorem at15 : Try.prog.funcs[sig 15]? = some Try.f15 := by kernel_rfl
theorem at16 : Try.prog.funcs[sig 16]? = some Try.f16 := by kernel_rfl
theorem at17 : Try.prog.funcs[sig 17]? = some Try.f17 := by kernel_rfl
theorem at18 : Try.prog.funcs[sig 18]? = some Try.f18 := by kernel_rfl
theorem at19 : Try.prog.funcs[sig 19]? = some Try.f19 := by kernel_rfl
theorem at20 : Try.prog.funcs[sig 20]? = some Try.f20 := by kernel_rfl
theorem at21 : Try.prog.funcs[sig 21]? = some Try.f21 := by kernel_rfl
theorem at22 : Try.prog.funcs[sig 22]? = some Try.f22 := by kernel_rfl
theorem at23 : Try.prog.funcs[sig 23]? = some Try.f23 := by kernel_rfl
theorem at24 : Try.prog.funcs[sig 24]? = some Try.f24 := by kernel_rfl
theorem at25 : Try.prog.funcs[sig 25]? = some Try.f25 := by kernel_rfl
theorem at26 : Try.prog.funcs[sig 26]? = some Try.f26 := by kernel_rfl
theorem at27 : Try.prog.funcs[sig 27]? = some Try.f27 := by kernel_rfl
theorem at28 : Try.prog.funcs[sig 28]? = some Try.f28 := by kernel_rfl
theorem at29 : Try.prog.funcs[sig 29]? = some Try.f29 := by kernel_rfl
theorem at30 : Try.prog.funcs[sig 30]? = some Try.f30 := by kernel_rfl
theorem at31 : Try.prog.funcs[sig 31]? = some Try.f31 := by kernel_rfl
theorem at32 : Try.prog.funcs[sig 32]? = some Try.f32 := by kernel_rfl
theorem at33 : Try.prog.funcs[sig 33]? = some Try.f33 := by kernel_rfl
theorem at34 : Try.prog.funcs[sig 34]? = some Try.f34 := by kernel_rfl
theorem at35 : Try.prog.funcs[sig 35]? = some Try.f35 := by kernel_rfl
theorem at36 : Try.prog.funcs[sig 36]? = some Try.f36 := by kernel_rfl
theorem at37 : Try.prog.funcs[sig 37]? = some Try.f37 := by kernel_rfl
theorem at38 : Try.prog.funcs[sig 38]? = some Try.f38 := by kernel_rfl
theorem at39 : Try.prog.funcs[sig 39]? = some Try.f39 := by kernel_rfl
theorem at40 : Try.prog.funcs[sig 40]? = some Try.f40 := by kernel_rfl
theorem at41 : Try.prog.funcs[sig 41]? = some Try.f41 := by kernel_rfl
theorem at42 : Try.prog.funcs[sig 42]? = some Try.f42 := by kernel_rfl
theorem at43 : Try.prog.funcs[sig 43]? = some Try.f43 := by kernel_rfl
theorem at44 : Try.prog.funcs[sig 44]? = some Try.f44 := by kernel_rfl
theorem at45 : Try.prog.funcs[sig 45]? = some Try.f45 := by kernel_rfl
theorem at46 : Try.prog.funcs[sig 46]? = some Try.f46 := by kernel_rfl
theorem at47 : Try.prog.funcs[sig 47]? = some Try.f47 := by kernel_rfl
theorem at48 : Try.prog.funcs[sig 48]? = some Try.f48 := by kernel_rfl
theorem at49 : Try.prog.funcs[sig 49]? = some Try.f49 := by kernel_rfl
theorem at50 : Try.prog.funcs[sig 50]? = some Try.f50 := by kernel_rfl
theorem at51 : Try.prog.funcs[sig 51]? = some Try.f51 := by kernel_rfl
theorem at52 : Try.prog.funcs[sig 52]? = some Try.f52 := by kernel_rfl
theorem at53 : Try.prog.funcs[sig 53]? = some Try.f53 := by kernel_rfl
theorem at54 : Try.prog.funcs[sig 54]? = some Try.f54 := by kernel_rfl
theorem at55 : Try.prog.funcs[sig 55]? = some Try.f55 := by kernel_rfl
theorem at56 : Try.prog.funcs[sig 56]? = some Try.f56 := by kernel_rfl
theorem at57 : Try.prog.funcs[sig 57]? = some Try.f57 := by kernel_rfl
theorem at58 : Try.prog.funcs[sig 58]? = some Try.f58 := by kernel_rfl
theorem at59 : Try.prog.funcs[sig 59]? = some Try.f59 := by kernel_rfl
theorem at60 : Try.prog.funcs[sig 60]? = some Try.f60 := by kernel_rfl
theorem at61 : Try.prog.funcs[sig 61]? = some Try.f61 := by kernel_rfl

theorem linked : Linked Try.prog sig tbl := by
  intro i F h
  simp only [tbl, tblL, look] at h
  by_cases h3 : 3 = i
  · rw [if_pos h3] at h; injection h with h; subst h3; subst h; exact ⟨_, _, _, _, at3, link3⟩
  rw [if_neg h3] at h
  by_cases h4 : 4 = i
  · rw [if_pos h4] at h; injection h with h; subst h4; subst h; exact ⟨_, _, _, _, at4, link4⟩
  rw [if_neg h4] at h
  by_cases h5 : 5 = i
  · rw [if_pos h5] at h; injection h with h; subst h5; subst h; exact ⟨_, _, _, _, at5, link5⟩
  rw [if_neg h5] at h
  by_cases h6 : 6 = i
  · rw [if_pos h6] at h; injection h with h; subst h6; subst h; exact ⟨_, _, _, _, at6, link6⟩
  rw [if_neg h6] at h
  by_cases h7 : 7 = i
  · rw [if_pos h7] at h; injection h with h; subst h7; subst h; exact ⟨_, _, _, _, at7, link7⟩
  rw [if_neg h7] at h
  by_cases h8 : 8 = i
  · rw [if_pos h8] at h; injection h with h; subst h8; subst h; exact ⟨_, _, _, _, at8, link8⟩
  rw [if_neg h8] at h
  by_cases h9 : 9 = i
  · rw [if_pos h9] at h; injection h with h; subst h9; subst h; exact ⟨_, _, _, _, at9, link9⟩
  rw [if_neg h9] at h
  by_cases h10 : 10 = i
  · rw [if_pos h10] at h; injection h with h; subst h10; subst h; exact ⟨_, _, _, _, at10, link10⟩
  rw [if_neg h10] at h
  by_cases h11 : 11 = i
  · rw [if_pos h11] at h; injection h with h; subst h11; subst h; exact ⟨_, _, _, _, at11, link11⟩
  rw [if_neg h11] at h
  by_cases h12 : 12 = i
  · rw [if_pos h12] at h; injection h with h; subst h12; subst h; exact ⟨_, _, _, _, at12, link12⟩
  rw [if_neg h12] at h
  by_cases h13 : 13 = i
  · rw [if_pos h13] at h; injection h with h; subst h13; subst h; exact ⟨_, _, _, _, at13, link13⟩
  rw [if_neg h13] at h
  by_cases h14 : 14 = i
  · rw [if_pos h14] at h; injection h with h; subst h14; subst h; exact ⟨_, _, _, _, at14, link14⟩
  rw [if_neg h14] at h
  by_cases h15 : 15 = i
  · rw [if_pos h15] at h; injection h with h; subst h15; subst h; exact ⟨_, _, _, _, at15, link15⟩
  rw [if_neg h15] at h
  by_cases h16 : 16 = i
  · rw [if_pos h16] at h; injection h with h; subst h16; subst h; exact ⟨_, _, _, _, at16, link16⟩
  rw [if_neg h16] at h
  by_cases h17 : 17 = i
  · rw [if_pos h17] at h; injection h with h; subst h17; subst h; exact ⟨_, _, _, _, at17, link17⟩
  rw [if_neg h17] at h
  by_cases h18 : 18 = i
  · rw [if_pos h18] at h; injection h with h; subst h18; subst h; exact ⟨_, _, _, _, at18, link18⟩
  rw [if_neg h18] at h
  by_cases h19 : 19 = i
  · rw [if_pos h19] at h; injection h with h; subst h19; subst h; exact ⟨_, _, _, _, at19, link19⟩
  rw [if_neg h19] at h
  by_cases h20 : 20 = i
  · rw [if_pos h20] at h; injection h with h; subst h20; subst h; exact ⟨_, _, _, _, at20, link20⟩
  rw [if_neg h20] at h
  by_cases h21 : 21 = i
  · rw [if_pos h21] at h; injection h with h; subst h21; subst h; exact ⟨_, _, _, _, at21, link21⟩
  rw [if_neg h21] at h
  by_cases h22 : 22 = i
  · rw [if_pos h22] at h; injection h with h; subst h22; subst h; exact ⟨_, _, _, _, at22, link22⟩
  rw [if_neg h22] at h
  by_cases h23 : 23 = i
  · rw [if_pos h23] at h; injection h with h; subst h23; subst h; exact ⟨_, _, _, _, at23, link23⟩
  rw [if_neg h23] at h
  by_cases h24 : 24 = i
  · rw [if_pos h24] at h; injection h with h; subst h24; subst h; exact ⟨_, _, _, _, at24, link24⟩
  rw [if_neg h24] at h
  by_cases h25 : 25 = i
  · rw [if_pos h25] at h; injection h with h; subst h25; subst h; exact ⟨_, _, _, _, at25, link25⟩
  rw [if_neg h25] at h
  by_cases h26 : 26 = i
  · rw [if_pos h26] at h; injection h with h; subst h26; subst h; exact ⟨_, _, _, _, at26, link26⟩
  rw [if_neg h26] at h
  by_cases h27 : 27 = i
  · rw [if_pos h27] at h; injection h with h; subst h27; subst h; exact ⟨_, _, _, _, at27, link27⟩
  rw [if_neg h27] at h
  by_cases h28 : 28 = i
  · rw [if_pos h28] at h; injection h with h; subst h28; subst h; exact ⟨_, _, _, _, at28, link28⟩
  rw [if_neg h28] at h
  by_cases h29 : 29 = i
  · rw [if_pos h29] at h; injection h with h; subst h29; subst h; exact ⟨_, _, _, _, at29, link29⟩
  rw [if_neg h29] at h
  by_cases h30 : 30 = i
  · rw [if_pos h30] at h; injection h with h; subst h30; subst h; exact ⟨_, _, _, _, at30, link30⟩
  rw [if_neg h30] at h
  by_cases h31 : 31 = i
  · rw [if_pos h31] at h; injection h with h; subst h31; subst h; exact ⟨_, _, _, _, at31, link31⟩
  rw [if_neg h31] at h
  by_cases h32 : 32 = i
  · rw [if_pos h32] at h; injection h with h; subst h32; subst h; exact ⟨_, _, _, _, at32, link32⟩
  rw [if_neg h32] at h
  by_cases h33 : 33 = i
  · rw [if_pos h33] at h; injection h with h; subst h33; subst h; exact ⟨_, _, _, _, at33, link33⟩
  rw [if_neg h33] at h
  by_cases h34 : 34 = i
  · rw [if_pos h34] at h; injection h with h; subst h34; subst h; exact ⟨_, _, _, _, at34, link34⟩
  rw [if_neg h34] at h
  by_cases h35 : 35 = i
  · rw [if_pos h35] at h; injection h with h; subst h35; subst h; exact ⟨_, _, _, _, at35, link35⟩
  rw [if_neg h35] at h
  by_cases h36 : 36 = i
  · rw [if_pos h36] at h; injection h with h; subst h36; subst h; exact ⟨_, _, _, _, at36, link36⟩
  rw [if_neg h36] at h
  by_cases h37 : 37 = i
  · rw [if_pos h37] at h; injection h with h; subst h37; subst h; exact ⟨_, _, _, _, at37, link37⟩
  rw [if_neg h37] at h
  by_cases h38 : 38 = i
  · rw [if_pos h38] at h; injection h with h; subst h38; subst h; exact ⟨_, _, _, _, at38, link38⟩
  rw [if_neg h38] at h
  by_cases h39 : 39 = i
  · rw [if_pos h39] at h; injection h with h; subst h39; subst h; exact ⟨_, _, _, _, at39, link39⟩
  rw [if_neg h39] at h
  by_cases h40 : 40 = i
  · rw [if_pos h40] at h; injection h with h; subst h40; subst h; exact ⟨_, _, _, _, at40, link40⟩
  rw [if_neg h40] at h
  by_cases h41 : 41 = i
  · rw [if_pos h41] at h; injection h with h; subst h41; subst h; exact ⟨_, _, _, _, at41, link41⟩
  rw [if_neg h41] at h
  by_cases h42 : 42 = i
  · rw [if_pos h42] at h; injection h with h; subst h42; subst h; exact ⟨_, _, _, _, at42, link42⟩
  rw [if_neg h42] at h
  by_cases h43 : 43 = i
  · rw [if_pos h43] at h; injection h with h; subst h43; subst h; exact ⟨_, _, _, _, at43, link43⟩
  rw [if_neg h43] at h
  by_cases h44 : 44 = i
  · rw [if_pos h44] at h; injection h with h; subst h44; subst h; exact ⟨_, _, _, _, at44, link44⟩
  rw [if_neg h44] at h
  by_cases h45 : 45 = i
  · rw [if_pos h45] at h; injection h with h; subst h45; subst h; exact ⟨_, _, _, _, at45, link45⟩
  rw [if_neg h45] at h
  by_cases h46 : 46 = i
  · rw [if_pos h46] at h; injection h with h; subst h46; subst h; exact ⟨_, _, _, _, at46, link46⟩
  rw [if_neg h46] at h
  by_cases h47 : 47 = i
  · rw [if_pos h47] at h; injection h with h; subst h47; subst h; exact ⟨_, _, _, _, at47, link47⟩
  rw [if_neg h47] at h
  by_cases h48 : 48 = i
  · rw [if_pos h48] at h; injection h with h; subst h48; subst h; exact ⟨_, _, _, _, at48, link48⟩
  rw [if_neg h48] at h
  by_cases h49 : 49 = i
  · rw [if_pos h49] at h; injection h with h; subst h49; subst h; exact ⟨_, _, _, _, at49, link49⟩
  rw [if_neg h49] at h
  by_cases h50 : 50 = i
  · rw [if_pos h50] at h; injection h with h; subst h50; subst h; exact ⟨_, _, _, _, at50, link50⟩
  rw [if_neg h50] at h
  by_cases h51 : 51 = i
  · rw [if_pos h51] at h; injection h with h; subst h51; subst h; exact ⟨_, _, _, _, at51, link51⟩
  rw [if_neg h51] at h
  by_cases h52 : 52 = i
  · rw [if_pos h52] at h; injection h with h; subst h52; subst h; exact ⟨_, _, _, _, at52, link52⟩
  rw [if_neg h52] at h
  by_cases h53 : 53 = i
  · rw [if_pos h53] at h; injection h with h; subst h53; subst h; exact ⟨_, _, _, _, at53, link53⟩
  rw [if_neg h53] at h
  by_cases h54 : 54 = i
  · rw [if_pos h54] at h; injection h with h; subst h54; subst h; exact ⟨_, _, _, _, at54, link54⟩
  rw [if_neg h54] at h
  by_cases h55 : 55 = i
  · rw [if_pos h55] at h; injection h with h; subst h55; subst h; exact ⟨_, _, _, _, at55, link55⟩
  rw [if_neg h55] at h
  by_cases h56 : 56 = i
  · rw [if_pos h56] at h; injection h with h; subst h56; subst h; exact ⟨_, _, _, _, at56, link56⟩
  rw [if_neg h56] at h
  by_cases h57 : 57 = i
  · rw [if_pos h57] at h; injection h with h; subst h57; subst h; exact ⟨_, _, _, _, at57, link57⟩
  rw [if_neg h57] at h
  by_cases h58 : 58 = i
  · rw [if_pos h58] at h; injection h with h; subst h58; subst h; exact ⟨_, _, _, _, at58, link58⟩
  rw [if_neg h58] at h
  by_cases h59 : 59 = i
  · rw [if_pos h59] at h; injection h with h; subst h59; subst h; exact ⟨_, _, _, _, at59, link59⟩
  rw [if_neg h59] at h
  by_cases h60 : 60 = i
  · rw [if_pos h60] at h; injection h with h; subst h60; subst h; exact ⟨_, _, _, _, at60, link60⟩
  rw [if_neg h60] at h
  by_cases h61 : 61 = i
  · rw [if_pos h61] at h; injection h with h; subst h61; subst h; exact ⟨_, _, _, _, at61, link61⟩
  rw [if_neg h61] at h
  simp at h

theorem follows : Try.prog.follows .mixedOrders = true := by kernel_rfl

end Go.Proofs.Ytlbhbjaimcinbaa.AI

/- From the interpreter's answer to the statement's words: what is left behind a law's call. -/
set_option linter.unusedSimpArgs false
namespace Go.Proofs.Ytlbhbjaimcinbaa.AI
open Go Go.ChangeShapes Go.WideShapes Go.ChangeAt Go.RowKit

section
variable {H : Type} {enc : TypeId × Value → H} {P : Program}

/-- Arguments of any type that can be read: where nothing old has turned they read as they did. -/
theorem stay_all (hl : laidOutB P = true) {W W' : World} (hb : Below W.heap.size W W') : ∀ {ts : List TypeId} {vs : List Value} {ds : List (DataW H)} {ps : List MemPlace},
    (∀ t ∈ ts, P.readableRec t = true ∧ t < P.types.size) → DataW.TrodAll enc P W 0 (fun _ => true) true ts vs ds ps → (∀ x ∈ ps, x.block < W.heap.size) → ∀ sp : Nat → Bool, (∀ x ∈ ps, sp x.block = true) →
    DataW.TrodAll enc P W' 0 sp true ts vs ds ps := by
  intro ts
  induction ts with
  | nil => intro vs ds ps _ h _ sp _; obtain ⟨rfl, rfl, rfl⟩ := trodAll_nil h; exact trodAll_mk0
  | cons t ts ih =>
    intro vs ds ps ht h hlt sp hsp
    obtain ⟨v, vs1, d, ds1, p, q, rfl, rfl, rfl, h1, h2⟩ := trodAll_cons h
    have h3 := ih (fun u hu => ht u (List.mem_cons_of_mem _ hu)) h2 (fun x hx => hlt x (List.mem_append_right _ hx)) sp (fun x hx => hsp x (List.mem_append_right _ hx))
    have h4 := WideElems.Trod_stays hl (ht t List.mem_cons_self).1 (ht t List.mem_cons_self).2 h1 (fun x hx => hb.same (hlt x (List.mem_append_left _ hx))) (fun x hx => hsp x (List.mem_append_left _ hx))
    exact ⟨p, q, h4, h3, rfl⟩

/-- Behind a call that has written to memory of its own alone. -/
theorem law_post {f : Func} {s : ChangeSpec} {apart fresh handsOn again : Bool} {W W' : World} {args : Array Value} {v : Value} {ds gs : List (DataW H)} {before : List MemPlace} {rs : List (DataW H)} (hl : laidOutB P = true)
    (hW : DataW.Whole enc P f.params.toList s.vars apart W args.toList ds gs before) (hv : s.vars = []) (hfn : s.fn H (ds ++ gs) = { results := rs, args := ds }) (hpar : ∀ t ∈ f.params.toList, P.readableRec t = true ∧ t < P.types.size)
    (hb : Below W.heap.size W W')
    (hres : ∀ (b : Nat) (sp : Nat → Bool) (hd : Bool), DataW.TrodAll enc P W' b sp hd f.resultTypes.toList (v.resultList f.resultTypes.size) rs [])
    (hok : ∀ (j : Nat) (t : TypeId) (r : Value), f.resultTypes[j]? = some t → (v.resultList f.resultTypes.size)[j]? = some r → Value.okWide P W' .any 0 t r) :
    s.post enc P f apart fresh handsOn again W args v W' := by
  have hlt := hW.lt
  have hW0 := hW
  obtain ⟨p, q, hA, hV, hpq, hz, hn⟩ := hW
  rw [hv] at hV
  obtain ⟨hgs, hq⟩ := trodVars_none hV
  subst hq; subst hpq
  rw [List.append_nil] at *
  have hargs : ∀ sp : Nat → Bool, (∀ x ∈ p, sp x.block = true) → DataW.TrodAll enc P W' 0 sp true f.params.toList args.toList ds p := fun sp hsp => stay_all hl hb hpar hA hlt sp hsp
  have hold : ∀ x ∈ p, (fun b => decide (b < W.heap.size)) x.block = true := fun x hx => by simpa using hlt x hx
  have hnone : ∀ sp : Nat → Bool, DataW.TrodVars enc P W' sp s.vars ([] : List (DataW H)) [] := fun sp => by rw [hv]; rfl
  refine ⟨ds, gs, p, [], p, [], hW0, ?_, ?_, ?_, World.keptBut_mono (fun x hx => ⟨hx, .inr (.inl hx)⟩) (hb.frame _), fun _ => ?_⟩
  · rw [hfn]; exact hres _ _ _
  · rw [hfn]; exact hargs _ hold
  · rw [hfn]; exact hnone _
  · refine ⟨hok, rs ++ ds, [], ([] ++ p) ++ [], ⟨[] ++ p, [], ?_, ?_, rfl, ?_, ?_⟩, ?_⟩
    · exact trodAll_append (hargs _ (fun _ _ => rfl)) (hres _ _ _)
    · exact hnone _
    · intro b off hp
      have hp' : MemPlace.cell b off ∈ p := by simpa using hp
      rw [hb.frozen (hlt _ hp')]
      exact hz b off hp'
    · intro ha
      simpa using hn ha
    · intro x hx _
      simpa using hx
end

/-- A law that answers true in the interpreter does so in the program. -/
theorem law_calls {k : Nat} {vs : List Value} {H : Heap} {B : Map} {W : World} {args : List Value} (h : Op1 (AC tbl k vs H) fun v _ => v = .bool true) (hr : HR sig W.heap.size B H W) (hro : ∀ i b, hget H i = some b → b.rw = false)
    (hv : VRs sig B vs args) : Calls Try.prog (sig k) ⟨args⟩ W fun e W' => e = .returned (.bool true) ∧ Below W.heap.size W W' := by
  obtain ⟨v, H', hac, rfl⟩ := h
  obtain ⟨_, hc⟩ := AC_sound tbl (base := W.heap.size) follows linked k vs H _ H' hac
  refine (hc B W args hr hv).mono fun e W' he => ?_
  obtain ⟨v', B', rfl, r1, r2, r3⟩ := he
  rw [r1.of_bool]
  exact ⟨rfl, r3.os, r3.tape, r3.output, r3.size, fun g hg => r3.keep g hg (by rintro ⟨i, b, p, hi, hb, _⟩; rw [hro i b hi] at hb; simp at hb)⟩

theorem own : ownKnob Try.prog.godebug = none := by kernel_rfl
theorem laidOut : laidOutB Try.prog = true := by kernel_rfl

end Go.Proofs.Ytlbhbjaimcinbaa.AI

/- A list of fields among a law's arguments. -/
set_option linter.unusedSimpArgs false
namespace Go.Proofs.Ytlbhbjaimcinbaa.AI
open Go Go.ChangeShapes Go.WideShapes Go.ChangeAt Go.RowKit

theorem is64_wf {n : Int} (h : (Lit.int .i64 n).wf = true) : Is64 n := by
  simp only [Lit.wf, Bool.and_eq_true, decide_eq_true_eq] at h
  simp [IntKind.min, IntKind.max, IntKind.signed, IntKind.bits] at h
  exact ⟨by omega, by omega⟩

theorem mapM_get {α β : Type} {f : α → Option β} : ∀ {l : List α} {r : List β}, l.mapM f = some r → ∀ (i : Nat) (x : α), l[i]? = some x → ∃ y, r[i]? = some y ∧ f x = some y := by
  intro l
  induction l with
  | nil => intro r _ i x h; simp at h
  | cons a l ih =>
    intro r h i x hx
    simp only [List.mapM_cons, bind, Option.bind_eq_some_iff, pure, Option.some.injEq] at h
    obtain ⟨y, hy, ys, hys, rfl⟩ := h
    cases i with
    | zero => simp at hx; subst hx; exact ⟨y, rfl, hy⟩
    | succ i => exact ih hys i x (by simpa using hx)

/-- What one field's four cells are. -/
theorem field_open {H : Type} {enc : TypeId × Value → H} {W : World} {n : Nat} {cs : List Value} {y : DataW H × List MemPlace}
    (h : DataW.trod enc Try.prog W 0 (fun _ => true) true n 30 cs = some y) : ∃ f : Fld, cs = f.cells ∧ Is64 f.kind ∧ Is64 f.width ∧ Is64 f.n := by
  obtain ⟨xs, m, rfl, _, hl, hx, hf⟩ := DataW.trod_struct Try.underlying30 h
  have c30 : Try.prog.cellsOf 30 = 4 := by kernel_rfl
  have c3 : Try.prog.cellsOf 3 = 1 := by kernel_rfl
  have c9 : Try.prog.cellsOf 9 = 1 := by kernel_rfl
  rw [c30] at hl
  obtain ⟨a, b, c, d, rfl⟩ : ∃ a b c d, cs = [a, b, c, d] := by
    match cs, hl with
    | [a, b, c, d], _ => exact ⟨a, b, c, d, rfl⟩
  have hxl : xs.length = 4 := hx
  have f0 : DataW.trod enc Try.prog W 0 (fun _ => true) true m 3 ((List.drop 0 [a, b, c, d]).take (Try.prog.cellsOf 3)) = xs[0]? := hf 0 _ rfl
  have f1 : DataW.trod enc Try.prog W 0 (fun _ => true) true m 3 ((List.drop 1 [a, b, c, d]).take (Try.prog.cellsOf 3)) = xs[1]? := hf 1 _ rfl
  have f2 : DataW.trod enc Try.prog W 0 (fun _ => true) true m 3 ((List.drop 2 [a, b, c, d]).take (Try.prog.cellsOf 3)) = xs[2]? := hf 2 _ rfl
  have f3 : DataW.trod enc Try.prog W 0 (fun _ => true) true m 9 ((List.drop 3 [a, b, c, d]).take (Try.prog.cellsOf 9)) = xs[3]? := hf 3 _ rfl
  rw [c3] at f0 f1 f2
  rw [c9] at f3
  simp only [List.drop_zero, List.drop_succ_cons, List.take_succ_cons, List.take_zero] at f0 f1 f2 f3
  obtain ⟨x0, hx0⟩ : ∃ x, xs[0]? = some x := ⟨_, List.getElem?_eq_getElem (by omega)⟩
  obtain ⟨x1, hx1⟩ : ∃ x, xs[1]? = some x := ⟨_, List.getElem?_eq_getElem (by omega)⟩
  obtain ⟨x2, hx2⟩ : ∃ x, xs[2]? = some x := ⟨_, List.getElem?_eq_getElem (by omega)⟩
  obtain ⟨x3, hx3⟩ : ∃ x, xs[3]? = some x := ⟨_, List.getElem?_eq_getElem (by omega)⟩
  obtain ⟨n0, e0, _, w0⟩ := DataW.trod_int Try.underlying3 (f0.trans hx0)
  obtain ⟨n1, e1, _, w1⟩ := DataW.trod_int Try.underlying3 (f1.trans hx1)
  obtain ⟨n2, e2, _, w2⟩ := DataW.trod_int Try.underlying3 (f2.trans hx2)
  obtain ⟨s, e3, _, _⟩ := DataW.trod_string Try.underlying9 (f3.trans hx3)
  simp only [List.cons.injEq, and_true] at e0 e1 e2 e3
  subst e0 e1 e2 e3
  exact ⟨⟨n0, n1, n2, s⟩, rfl, is64_wf w0, is64_wf w1, is64_wf w2⟩

theorem flat_idx : ∀ (l : List Fld) (j : Nat) (x : Value), (flat l)[j]? = some x → ∃ i k f, j = i * 4 + k ∧ l[i]? = some f ∧ f.cells[k]? = some x := by
  intro l
  induction l with
  | nil => intro j x h; simp [flat] at h
  | cons g l ih =>
    intro j x h
    have e : flat (g :: l) = g.cells ++ flat l := by simp [flat]
    rw [e, List.getElem?_append] at h
    have hl : g.cells.length = 4 := rfl
    split at h
    · exact ⟨0, j, g, by omega, rfl, h⟩
    · obtain ⟨i, k, f, h1, h2, h3⟩ := ih _ _ h
      exact ⟨i + 1, k, f, by omega, by simpa using h2, h3⟩
theorem cells_atom {f : Fld} {k : Nat} {x : Value} (h : f.cells[k]? = some x) : atom x = true := by
  have := List.mem_of_getElem? h
  simp only [Fld.cells, List.mem_cons, List.not_mem_nil, or_false] at this
  rcases this with rfl | rfl | rfl | rfl <;> rfl
theorem add_none (b o n : Nat) : (⟨b, o, none⟩ : Addr).add n = ⟨b, o + n, none⟩ := by
  unfold Addr.add; split
  · rename_i h; subst h; rfl
  · rfl

/-- A list of fields, as the law's call has it. -/
structure Fields (W : World) (v : Value) (l : List Fld) (va : Value) (B : Map) (H : Heap) : Prop where
  rel : VR sig B va v
  heap : HR sig W.heap.size B H W
  ro : ∀ i b, hget H i = some b → b.rw = false
  la : LA H va l
  ok : ∀ f ∈ l, Is64 f.kind ∧ Is64 f.width ∧ Is64 f.n

theorem fields_open {H : Type} {enc : TypeId × Value → H} {W : World} {base : Nat} {v : Value} {d : DataW H} {ps : List MemPlace} (hval : Value.okWide Try.prog W .any base 22 v) (h : DataW.Trod enc Try.prog W 0 (fun _ => true) true 22 v d ps) :
    ∃ l va B Hp, Fields W v l va B Hp := by
  obtain ⟨a0, len0, cap0, rfl⟩ := okWide_slice Try.underlying22 hval
  obtain ⟨fuel, hf⟩ := h
  rcases DataW.trod_slice Try.underlying22 hf with ⟨hc, _⟩ | ⟨a, len, cap, elems, rest, n, rfl, hc, _, _, hlc, _, hel, hget', _, _⟩
  · have hc' : Value.slice a0 len0 cap0 = .slice none 0 0 := by simpa [Value.cells] using hc
    rw [hc']
    exact ⟨[], .slice none 0 0, fun _ => none, [], .atom _ rfl, HR.nothing (Nat.le_refl _), fun i b hi => by simp [hget] at hi, .inl ⟨rfl, rfl⟩, fun f hf => by simp at hf⟩
  · have hc' : Value.slice a0 len0 cap0 = .slice (some a) len cap := by simpa [Value.cells] using hc
    rw [hc']
    have c30 : Try.prog.cellsOf 30 = 4 := by kernel_rfl
    rw [c30] at hget'
    by_cases hl0 : len = 0
    · subst hl0
      refine ⟨[], .slice (some ⟨0, 0, none⟩) 0 4, fun i => if i = 0 then some ⟨0, 0, none⟩ else none, [none], .empty 0 0 4 cap ⟨0, 0, none⟩ (some a) rfl rfl, ⟨fun i b hi => ?_, fun i b hi => ?_, fun i j b c p q hi => ?_, fun i p hp => ?_, Nat.le_refl _⟩, fun i b hi => ?_, .inr ⟨0, rfl, .inl rfl⟩, fun f hf => by simp at hf⟩
      · cases i <;> simp [hget] at hi
      · cases i <;> simp [hget] at hi
      · cases i <;> simp [hget] at hi
      · split at hp
        · rename_i h; subst h; simp
        · simp at hp
      · cases i <;> simp [hget] at hi
    · -- each element's cells
      have each : ∀ i, i < len → ∃ (f : Fld), (Is64 f.kind ∧ Is64 f.width ∧ Is64 f.n) ∧ ∀ k x, f.cells[k]? = some x → W.cell? ((a.add (i * 4)).add k) = some x := by
        intro i hi
        have h1 := hget' i hi
        have h2 : ∃ y, elems[i]? = some y := ⟨_, List.getElem?_eq_getElem (by omega)⟩
        obtain ⟨y, hy⟩ := h2
        rw [hy, Option.bind_eq_some_iff] at h1
        obtain ⟨cs, hcs, htr⟩ := h1
        obtain ⟨f, rfl, hok⟩ := field_open htr
        refine ⟨f, hok, fun k x hx => ?_⟩
        unfold World.cells? at hcs
        split at hcs
        · have hk : k < 4 := by have := (List.getElem?_eq_some_iff.1 hx).1; simpa [Fld.cells] using this
          obtain ⟨z, hz, hw⟩ := mapM_get hcs k k (by rw [List.getElem?_range hk])
          rw [hx] at hz; injection hz with hz; subst hz
          exact hw
        · simp at hcs
      obtain ⟨l, hll, hlf⟩ : ∃ l : List Fld, l.length = len ∧ ∀ i f, l[i]? = some f → (Is64 f.kind ∧ Is64 f.width ∧ Is64 f.n) ∧ ∀ k x, f.cells[k]? = some x → W.cell? ((a.add (i * 4)).add k) = some x := by
        refine ⟨(List.range len).map fun i => if h : i < len then (each i h).choose else ⟨0, 0, 0, ⟨#[]⟩⟩, by simp, fun i f hf => ?_⟩
        simp only [List.getElem?_map, Option.map_eq_some_iff] at hf
        obtain ⟨j, hj, rfl⟩ := hf
        have hil : i < len := by have := (List.getElem?_eq_some_iff.1 hj).1; simpa using this
        rw [List.getElem?_range hil] at hj
        injection hj with hj; subst hj
        rw [dif_pos hil]
        exact (each i hil).choose_spec
      obtain ⟨f0, hf0⟩ : ∃ f, l[0]? = some f := ⟨_, List.getElem?_eq_getElem (by omega)⟩
      have hcell0 := (hlf 0 f0 hf0).2 0 _ rfl
      have ha0 : (a.add (0 * 4)).add 0 = a := by simp [Addr.add]
      rw [ha0] at hcell0
      obtain ⟨g, o, sp⟩ := a
      have hsp : sp = none := by
        unfold World.cell? at hcell0
        split at hcell0
        · cases sp with
          | none => rfl
          | some q => simp at hcell0
        · simp at hcell0
      subst hsp
      have hg : g < W.heap.size := by
        unfold World.cell? at hcell0
        split at hcell0
        · rename_i h; exact (Array.getElem?_eq_some_iff.1 h).1
        · simp at hcell0
      refine ⟨l, .slice (some ⟨0, 0, none⟩) l.length 4, fun i => if i = 0 then some ⟨g, o, none⟩ else none, [some ⟨false, flat l⟩], ?_, ⟨fun i b hi hb => ?_, fun i b hi hb => ?_, fun i j b c p q hi hj hb => ?_, fun i p hp => ?_, Nat.le_refl _⟩, fun i b hi => ?_, .inr ⟨0, rfl, .inr rfl⟩, fun f hf => ?_⟩
      · rw [hll]
        exact VR.slice 0 0 len 4 cap ⟨g, o, none⟩ rfl hlc (fun s hs => by simp at hs)
      · cases i with
        | zero => simp [hget] at hi; subst hi; simp at hb
        | succ i => simp [hget] at hi
      · cases i with
        | succ i => simp [hget] at hi
        | zero =>
          simp [hget] at hi; subst hi
          refine ⟨g, o, rfl, hg, fun j x hx => ?_⟩
          obtain ⟨i, k, f, rfl, h2, h3⟩ := flat_idx l j x hx
          have := (hlf i f h2).2 k x h3
          rw [add_none, add_none] at this
          exact ⟨x, by rw [← Nat.add_assoc]; exact this, .atom x (cells_atom h3)⟩
      · cases i with
        | zero => simp [hget] at hi; subst hi; simp at hb
        | succ i => simp [hget] at hi
      · split at hp
        · rename_i h; subst h; simp
        · simp at hp
      · cases i with
        | zero => simp [hget] at hi; subst hi; rfl
        | succ i => simp [hget] at hi
      · obtain ⟨i, hi⟩ := List.getElem?_of_mem hf
        exact (hlf i f hi).1

end Go.Proofs.Ytlbhbjaimcinbaa.AI

/- BitioStrict holds, whatever the input. -/
set_option linter.unusedVariables false
namespace Go.Proofs.Ytlbhbjaimcinbaa
open Go.ChangeShapes Go.WideShapes Go.ChangeAt Go.RowKit

set_option maxRecDepth 100000 in
theorem bitioStrict_lifted (os : Os) (started : os.Started) (H : Type) (enc : TypeId × Value → H) :
    ReturnsInHanded {} Try.checked os 4 .any (Rows.bitioStrictSpec.pre6 enc Try.prog Try.f4 Rows.bitioStrictRow.domain false) (Rows.bitioStrictSpec.post enc Try.prog Try.f4 false true false false) := by
  refine returnsInHanded_of_change (C := Try.checked) AI.own started (by kernel_rfl) Try.func4
    (ChangeSpec.witness6 (enc := enc) (C := Try.checked) false ⟨#[], #[.string ⟨#[]⟩, .slice none 0 0], []⟩ 8 (by kernel_rfl) (by kernel_rfl) (by kernel_rfl) (by kernel_rfl)) ?_
  intro W base args ds gs before hval0 hW hcnd _
  have hval : ∀ (j : Nat) t v, Try.f4.params[j]? = some t → args[j]? = some v → Value.okWide Try.prog W .any base t v := hval0
  have hW' := hW
  obtain ⟨p, q, hA0, hV, rfl, hfz, hnd⟩ := hW
  have hA : DataW.TrodAll enc Try.prog W 0 (fun _ => true) true Try.f4.params.toList args.toList ds p := hA0
  rw [Try.params4] at hA hval
  obtain ⟨v0, v1, d0, d1, p0, p1, rfl, rfl, rfl, h0, h1⟩ := trodAll_two hA
  obtain ⟨rfl, rfl⟩ := trodVars_none hV
  obtain ⟨s, rfl, rfl, rfl, hs⟩ := Go.ChangeMaps.open_string Try.underlying9 (hval 0 9 v0 rfl rfl) h0
  obtain ⟨l, va, B, Hp, hF⟩ := AI.fields_open (hval 1 22 v1 rfl rfl) h1
  clear hA0 hval0
  have hc := AI.law_calls (k := 4) (args := [.string s, v1]) (AI.strict hF.la hF.ok) hF.heap hF.ro (.cons (.atom _ rfl) (.cons hF.rel .nil))
  refine hc.mono fun e W' ⟨he, hb⟩ => ?_
  subst he
  exact ⟨_, rfl, AI.law_post AI.laidOut hW' rfl rfl (by rw [Try.params4]; intro t ht; simp at ht; rcases ht with rfl | rfl <;> exact ⟨by kernel_rfl, of_decide_eq_true (by kernel_rfl)⟩) hb
    (fun _ _ _ => trodAll_mk1 (shut_bool Try.underlying4 _)) (ok_one (by kernel_rfl) rfl (okWide_bool_mk Try.underlying4 _))⟩

theorem bitioStrict_holds : Rows.BitioStrictSaid :=
  OpenClaim.holds_of_wide 4 Try.f4 rfl rfl rfl rfl rfl rfl rfl ⟨rfl, rfl, rfl, rfl, rfl⟩ rfl rfl rfl rfl rfl (by kernel_rfl) Try.func4 (by kernel_rfl)
    (of_decide_eq_true (by kernel_rfl)) (by unfold Func.isWrapper; first | (rw [if_pos (by decide +kernel)]; kernel_rfl) | (rw [if_neg (by decide +kernel)]; exact ⟨rfl, rfl⟩))
    (fun os started H enc _ => bitioStrict_lifted os started H enc)

end Go.Proofs.Ytlbhbjaimcinbaa

