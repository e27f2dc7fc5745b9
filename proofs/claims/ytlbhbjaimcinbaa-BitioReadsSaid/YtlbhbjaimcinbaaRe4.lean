/- What is proved on the way to BitioReads, part 4: an interpreter of the code, its soundness, and what the functions answer. -/
import Derived.Calls
import Derived.Orders
import Derived.RowKit3
import Derived.KernelRfl
import Derived.WalkKit
import Derived.Laws.IdiomStrings
import Derived.Laws.StructEq
import Derived.LoopN
import Derived.Test.YtlbhbjaimcinbaaRe3
/- The reader's end. -/
set_option linter.unusedSimpArgs false
namespace Go.Proofs.Ytlbhbjaimcinbaa.AI
open Go

def RS.close (r : RS) : Int := if r.err ≠ 0 then r.err else if 8 ≤ r.left then 10 else if valOf r.s r.at_ r.left.toNat ≠ 0 then 10 else 0

theorem vc_ptr' (a : Option Addr) : (Value.pointer a).cells.toList = [.pointer a] := rfl
theorem set_last {H : Heap} {x y : Option Blk} : (H ++ [x]).set H.length y = H ++ [y] := by rw [List.set_append_right _ _ (Nat.le_refl _)]; simp
theorem vc_agg' (cs : Array Value) : (Value.agg cs).cells = cs := rfl

theorem ones_spec {H : Heap} {b p : Nat} {r : RS} (hb : hget H b = some ⟨true, [.pointer (some ⟨p, 0, none⟩)]⟩) (h : RSt H p r) (ho : r.Ok) (he : r.err = 0) (hl : ¬ 8 ≤ r.left) {K : Value → Heap → Prop}
    (hk : ∀ H', Frm [] H H' → K (.bool (decide (valOf r.s r.at_ r.left.toNat ≠ 0))) H') : Op1 (AC tbl 47 [.pointer (some ⟨b, 0, none⟩)] H) K := by
  apply AC_wp (F := F47) rfl (by simp [F47]) (.inl rfl)
  have hc := cells_get h
  have hbl := hget_lt hb
  have hpl := h.lt
  have h1 := ho.at_le
  have h2 := ho.size
  have hleft : r.left = ((8 * r.s.size - r.at_ : Nat) : Int) := by unfold RS.left; rw [if_pos he]; omega
  have hst : RSt (H ++ [some ⟨true, r.cells⟩]) H.length r := by unfold RSt; exact hget_append_self
  have hstp : RSt (H ++ [some ⟨true, r.cells⟩]) p r := by unfold RSt; rw [hget_append_lt hpl]; exact h
  have hsp := left_spec hstp ho
  rw [hleft] at hl hk hsp
  simp only [Int.toNat_natCast] at hk
  have hg := get_spec (w := 8 * r.s.size - r.at_) hst (by omega) (by omega) (by omega)
  have hcell : r.cells = [.string r.s, .int .i64 (r.at_ : Int), .int .i64 r.err] := rfl
  rw [hcell] at hsp hg
  have e3 : ∀ a b c : Value, List.take 3 (List.drop 0 [a, b, c]) = [a, b, c] := fun _ _ _ => rfl
  have e4 : ∀ a b c : Value, (#[a, b, c] : Array Value).size = 3 := fun _ _ _ => rfl
  have hbit : (decide (¬ (((valOf r.s r.at_ (8 * r.s.size - r.at_) : Nat) : Int) = 0))) = decide (valOf r.s r.at_ (8 * r.s.size - r.at_) ≠ 0) := by simp only [decide_eq_decide]; omega
  simp only [F47, ↓RW_seq, ↓AW_ret, ↓AW_skip, ↓AW_exit, ↓AW_block, ↓RW_cond, ↓RW_reg, ↓RW_regd, ↓RO_op, ↓RO_t, ↓RO_f, ↓RO_nt, ↓RO_nf, ↓RO_u, ↓AO_nil, ↓RD_op, ↓RD_t, ↓RD_f, ↓RD_nt, ↓RD_fe, ↓RD_nte, ↓RD_nf, ↓RD_u, ↓AOD_nil, CDops_eff, CDops_no, CDops_1, CDops_2, Again_nil, Again_cons, Same1_int, Same1_bool, Same1_str, Same1_ptr, Same1_slice, Same1_nil, CSeq_ap, CReg_ap, COps_ap, Then_normal, Then_ret, Then_exit, InBlock_normal, InBlock_ret, InBlock_self, InBlock_exit, Ends_ret, Ends_normal, ares, tup, finO_some, fin_same, fin_false, argsE, dval, aop, ev, evs, evo, evp, fillL, addrOf, intOf?, lk_put, lk_none, lk_cons, lk_nil, keep_nil, keep_cons, Op1_some, Option.map_some, Option.bind_some, reduceIte, Nat.reduceEqDiff, binV_lss, binV_leq, binV_gtr, binV_geq, binV_eql, binV_neq, binV_add, binV_sub, binV_mul, un_not, CondA_false, CondA_true, Bool.not_true, Bool.not_false, reduceCtorEq, decide_true, decide_false, Nat.add_zero, Nat.zero_add, Nat.reduceAdd, Nat.reduceMul, Bool.bne_false, Bool.bne_true, eqPtr, Option.isNone_some, Option.isNone_none, List.getElem?_cons_zero, List.getElem?_cons_succ, Option.isSome_none, Option.isSome_some , hload, hstore, List.length_cons, List.length_nil, Nat.reduceAdd, Nat.reduceLeDiff, decide_true, List.all_cons, List.all_nil, one, Bool.and_true, Bool.true_and, Bool.and_self, splice, List.set_cons_zero, List.set_cons_succ, List.getElem?_cons_zero, List.getElem?_cons_succ, vc_int, vc_slice, vc_str, vc_bool, vc_int', vc_slice', vc_str', vc_bool', List.length_set, List.length_append, Nat.lt_irrefl, Nat.lt_add_one, and_self, true_and, and_true, lenV, cellsOfSlice, Nat.le_refl, if_true , hb, hc, e3, vc_agg', e4, hget_append_self, set_last, hget_lt_app, hbl, hsp, hg, ne_eq, hbit]
  exact hk _ (((Frm.refl [] H).push _).set (i := H.length) _ (.inr (Nat.le_refl _)))

theorem close_spec {H : Heap} {p : Nat} {r : RS} (h : RSt H p r) (ho : r.Ok) {K : Value → Heap → Prop} (hk : ∀ H', Frm [] H H' → K (.int .i64 r.close) H') : Op1 (AC tbl 23 [.pointer (some ⟨p, 0, none⟩)] H) K := by
  apply AC_wp (F := F23) rfl (by simp [F23]) (.inl rfl)
  have hpl := h.lt
  have hstp : RSt (H ++ [some ⟨true, [.pointer (some ⟨p, 0, none⟩)]⟩]) p r := by unfold RSt; rw [hget_append_lt hpl]; exact h
  have hc := cells_get hstp
  have hsp := left_spec hstp ho
  by_cases h1 : r.err = 0
  · by_cases h2 : 8 ≤ r.left
    · simp only [F23, ↓RW_seq, ↓AW_ret, ↓AW_skip, ↓AW_exit, ↓AW_block, ↓RW_cond, ↓RW_reg, ↓RW_regd, ↓RO_op, ↓RO_t, ↓RO_f, ↓RO_nt, ↓RO_nf, ↓RO_u, ↓AO_nil, ↓RD_op, ↓RD_t, ↓RD_f, ↓RD_nt, ↓RD_fe, ↓RD_nte, ↓RD_nf, ↓RD_u, ↓AOD_nil, CDops_eff, CDops_no, CDops_1, CDops_2, Again_nil, Again_cons, Same1_int, Same1_bool, Same1_str, Same1_ptr, Same1_slice, Same1_nil, CSeq_ap, CReg_ap, COps_ap, Then_normal, Then_ret, Then_exit, InBlock_normal, InBlock_ret, InBlock_self, InBlock_exit, Ends_ret, Ends_normal, ares, tup, finO_some, fin_same, fin_false, argsE, dval, aop, ev, evs, evo, evp, fillL, addrOf, intOf?, lk_put, lk_none, lk_cons, lk_nil, keep_nil, keep_cons, Op1_some, Option.map_some, Option.bind_some, reduceIte, Nat.reduceEqDiff, binV_lss, binV_leq, binV_gtr, binV_geq, binV_eql, binV_neq, binV_add, binV_sub, binV_mul, un_not, CondA_false, CondA_true, Bool.not_true, Bool.not_false, reduceCtorEq, decide_true, decide_false, Nat.add_zero, Nat.zero_add, Nat.reduceAdd, Nat.reduceMul, Bool.bne_false, Bool.bne_true, eqPtr, Option.isNone_some, Option.isNone_none, List.getElem?_cons_zero, List.getElem?_cons_succ, Option.isSome_none, Option.isSome_some , hload, hstore, List.length_cons, List.length_nil, Nat.reduceAdd, Nat.reduceLeDiff, decide_true, List.all_cons, List.all_nil, one, Bool.and_true, Bool.true_and, Bool.and_self, splice, List.set_cons_zero, List.set_cons_succ, List.getElem?_cons_zero, List.getElem?_cons_succ, vc_int, vc_slice, vc_str, vc_bool, vc_int', vc_slice', vc_str', vc_bool', List.length_set, List.length_append, Nat.lt_irrefl, Nat.lt_add_one, and_self, true_and, and_true, lenV, cellsOfSlice, Nat.le_refl, if_true , vc_ptr', hget_append_self, hc, h1, ne_eq, not_true_eq_false, hsp, h2]
      have : r.close = 10 := by simp [RS.close, h1, h2]
      rw [← this]
      exact hk _ ((Frm.refl _ _).push _)
    · have happ : ∀ v : Value, (#[] : Array Value).toList ++ ([] : List Value) ++ #[v].toList = [v] := fun _ => rfl
      simp only [F23, ↓RW_seq, ↓AW_ret, ↓AW_skip, ↓AW_exit, ↓AW_block, ↓RW_cond, ↓RW_reg, ↓RW_regd, ↓RO_op, ↓RO_t, ↓RO_f, ↓RO_nt, ↓RO_nf, ↓RO_u, ↓AO_nil, ↓RD_op, ↓RD_t, ↓RD_f, ↓RD_nt, ↓RD_fe, ↓RD_nte, ↓RD_nf, ↓RD_u, ↓AOD_nil, CDops_eff, CDops_no, CDops_1, CDops_2, Again_nil, Again_cons, Same1_int, Same1_bool, Same1_str, Same1_ptr, Same1_slice, Same1_nil, CSeq_ap, CReg_ap, COps_ap, Then_normal, Then_ret, Then_exit, InBlock_normal, InBlock_ret, InBlock_self, InBlock_exit, Ends_ret, Ends_normal, ares, tup, finO_some, fin_same, fin_false, argsE, dval, aop, ev, evs, evo, evp, fillL, addrOf, intOf?, lk_put, lk_none, lk_cons, lk_nil, keep_nil, keep_cons, Op1_some, Option.map_some, Option.bind_some, reduceIte, Nat.reduceEqDiff, binV_lss, binV_leq, binV_gtr, binV_geq, binV_eql, binV_neq, binV_add, binV_sub, binV_mul, un_not, CondA_false, CondA_true, Bool.not_true, Bool.not_false, reduceCtorEq, decide_true, decide_false, Nat.add_zero, Nat.zero_add, Nat.reduceAdd, Nat.reduceMul, Bool.bne_false, Bool.bne_true, eqPtr, Option.isNone_some, Option.isNone_none, List.getElem?_cons_zero, List.getElem?_cons_succ, Option.isSome_none, Option.isSome_some , hload, hstore, List.length_cons, List.length_nil, Nat.reduceAdd, Nat.reduceLeDiff, decide_true, List.all_cons, List.all_nil, one, Bool.and_true, Bool.true_and, Bool.and_self, splice, List.set_cons_zero, List.set_cons_succ, List.getElem?_cons_zero, List.getElem?_cons_succ, vc_int, vc_slice, vc_str, vc_bool, vc_int', vc_slice', vc_str', vc_bool', List.length_set, List.length_append, Nat.lt_irrefl, Nat.lt_add_one, and_self, true_and, and_true, lenV, cellsOfSlice, Nat.le_refl, if_true , vc_ptr', hget_append_self, hc, h1, ne_eq, not_true_eq_false, hsp, h2, happ]
      refine ones_spec hget_append_self hstp ho h1 h2 fun H1 hf => ?_
      by_cases h3 : valOf r.s r.at_ r.left.toNat = 0
      · have : r.close = 0 := by simp only [RS.close, h1, h2, h3]; simp
        simp only [↓RW_seq, ↓AW_ret, ↓AW_skip, ↓AW_exit, ↓AW_block, ↓RW_cond, ↓RW_reg, ↓RW_regd, ↓RO_op, ↓RO_t, ↓RO_f, ↓RO_nt, ↓RO_nf, ↓RO_u, ↓AO_nil, ↓RD_op, ↓RD_t, ↓RD_f, ↓RD_nt, ↓RD_fe, ↓RD_nte, ↓RD_nf, ↓RD_u, ↓AOD_nil, CDops_eff, CDops_no, CDops_1, CDops_2, Again_nil, Again_cons, Same1_int, Same1_bool, Same1_str, Same1_ptr, Same1_slice, Same1_nil, CSeq_ap, CReg_ap, COps_ap, Then_normal, Then_ret, Then_exit, InBlock_normal, InBlock_ret, InBlock_self, InBlock_exit, Ends_ret, Ends_normal, ares, tup, finO_some, fin_same, fin_false, argsE, dval, aop, ev, evs, evo, evp, fillL, addrOf, intOf?, lk_put, lk_none, lk_cons, lk_nil, keep_nil, keep_cons, Op1_some, Option.map_some, Option.bind_some, reduceIte, Nat.reduceEqDiff, binV_lss, binV_leq, binV_gtr, binV_geq, binV_eql, binV_neq, binV_add, binV_sub, binV_mul, un_not, CondA_false, CondA_true, Bool.not_true, Bool.not_false, reduceCtorEq, decide_true, decide_false, Nat.add_zero, Nat.zero_add, Nat.reduceAdd, Nat.reduceMul, Bool.bne_false, Bool.bne_true, eqPtr, Option.isNone_some, Option.isNone_none, List.getElem?_cons_zero, List.getElem?_cons_succ, Option.isSome_none, Option.isSome_some , h3, ne_eq, not_true_eq_false]
        rw [← this]
        exact hk _ (((Frm.refl _ _).push _).trans hf (by simp))
      · have : r.close = 10 := by simp [RS.close, h1, h2, h3]
        simp only [↓RW_seq, ↓AW_ret, ↓AW_skip, ↓AW_exit, ↓AW_block, ↓RW_cond, ↓RW_reg, ↓RW_regd, ↓RO_op, ↓RO_t, ↓RO_f, ↓RO_nt, ↓RO_nf, ↓RO_u, ↓AO_nil, ↓RD_op, ↓RD_t, ↓RD_f, ↓RD_nt, ↓RD_fe, ↓RD_nte, ↓RD_nf, ↓RD_u, ↓AOD_nil, CDops_eff, CDops_no, CDops_1, CDops_2, Again_nil, Again_cons, Same1_int, Same1_bool, Same1_str, Same1_ptr, Same1_slice, Same1_nil, CSeq_ap, CReg_ap, COps_ap, Then_normal, Then_ret, Then_exit, InBlock_normal, InBlock_ret, InBlock_self, InBlock_exit, Ends_ret, Ends_normal, ares, tup, finO_some, fin_same, fin_false, argsE, dval, aop, ev, evs, evo, evp, fillL, addrOf, intOf?, lk_put, lk_none, lk_cons, lk_nil, keep_nil, keep_cons, Op1_some, Option.map_some, Option.bind_some, reduceIte, Nat.reduceEqDiff, binV_lss, binV_leq, binV_gtr, binV_geq, binV_eql, binV_neq, binV_add, binV_sub, binV_mul, un_not, CondA_false, CondA_true, Bool.not_true, Bool.not_false, reduceCtorEq, decide_true, decide_false, Nat.add_zero, Nat.zero_add, Nat.reduceAdd, Nat.reduceMul, Bool.bne_false, Bool.bne_true, eqPtr, Option.isNone_some, Option.isNone_none, List.getElem?_cons_zero, List.getElem?_cons_succ, Option.isSome_none, Option.isSome_some , h3, ne_eq, not_false_eq_true]
        rw [← this]
        exact hk _ (((Frm.refl _ _).push _).trans hf (by simp))
  · simp only [F23, ↓RW_seq, ↓AW_ret, ↓AW_skip, ↓AW_exit, ↓AW_block, ↓RW_cond, ↓RW_reg, ↓RW_regd, ↓RO_op, ↓RO_t, ↓RO_f, ↓RO_nt, ↓RO_nf, ↓RO_u, ↓AO_nil, ↓RD_op, ↓RD_t, ↓RD_f, ↓RD_nt, ↓RD_fe, ↓RD_nte, ↓RD_nf, ↓RD_u, ↓AOD_nil, CDops_eff, CDops_no, CDops_1, CDops_2, Again_nil, Again_cons, Same1_int, Same1_bool, Same1_str, Same1_ptr, Same1_slice, Same1_nil, CSeq_ap, CReg_ap, COps_ap, Then_normal, Then_ret, Then_exit, InBlock_normal, InBlock_ret, InBlock_self, InBlock_exit, Ends_ret, Ends_normal, ares, tup, finO_some, fin_same, fin_false, argsE, dval, aop, ev, evs, evo, evp, fillL, addrOf, intOf?, lk_put, lk_none, lk_cons, lk_nil, keep_nil, keep_cons, Op1_some, Option.map_some, Option.bind_some, reduceIte, Nat.reduceEqDiff, binV_lss, binV_leq, binV_gtr, binV_geq, binV_eql, binV_neq, binV_add, binV_sub, binV_mul, un_not, CondA_false, CondA_true, Bool.not_true, Bool.not_false, reduceCtorEq, decide_true, decide_false, Nat.add_zero, Nat.zero_add, Nat.reduceAdd, Nat.reduceMul, Bool.bne_false, Bool.bne_true, eqPtr, Option.isNone_some, Option.isNone_none, List.getElem?_cons_zero, List.getElem?_cons_succ, Option.isSome_none, Option.isSome_some , hload, hstore, List.length_cons, List.length_nil, Nat.reduceAdd, Nat.reduceLeDiff, decide_true, List.all_cons, List.all_nil, one, Bool.and_true, Bool.true_and, Bool.and_self, splice, List.set_cons_zero, List.set_cons_succ, List.getElem?_cons_zero, List.getElem?_cons_succ, vc_int, vc_slice, vc_str, vc_bool, vc_int', vc_slice', vc_str', vc_bool', List.length_set, List.length_append, Nat.lt_irrefl, Nat.lt_add_one, and_self, true_and, and_true, lenV, cellsOfSlice, Nat.le_refl, if_true , vc_ptr', hget_append_self, hc, h1, ne_eq, not_false_eq_true]
    have : r.close = r.err := by simp [RS.close, h1]
    rw [← this]
    exact hk _ ((Frm.refl _ _).push _)

end Go.Proofs.Ytlbhbjaimcinbaa.AI

/- Fields, and how the law writes and reads them. -/
set_option linter.unusedSimpArgs false
namespace Go.Proofs.Ytlbhbjaimcinbaa.AI
open Go

structure Fld where
  kind : Int
  width : Int
  n : Int
  s : ByteArray
def Fld.cells (f : Fld) : List Value := [.int .i64 f.kind, .int .i64 f.width, .int .i64 f.n, .string f.s]
def Fld.v (f : Fld) : Value := .agg #[.int .i64 f.kind, .int .i64 f.width, .int .i64 f.n, .string f.s]
structure Fld.Ok (f : Fld) : Prop where
  kind : Is64 f.kind
  width : Is64 f.width
  n : Is64 f.n
  size : f.s.size ≤ 100000

def WS.write (s : WS) (f : Fld) : WS :=
  if f.kind = 0 then s.unsigned f.width f.n else if f.kind = 1 then s.signed f.width f.n else if f.kind = 2 then s.flag (decide (f.n ≠ 0)) else if f.kind = 3 then s.text f.width f.s else s

theorem Wrote.push {H : Heap} {p : Nat} {o : Option Nat} {s : WS} {K : Value → Heap → Prop} (b : Option Blk) (h : Wrote H p o s K) : Wrote (H ++ [b]) p o s (fun _ H1 => K (.tuple #[]) H1) := by
  intro H' o' k1 k2 k3
  refine h H' o' k1 (((Frm.refl _ _).push b).trans k2 (fun i hi => .inl hi)) fun q hq => ?_
  rcases k3 q hq with k | k
  · exact .inl k
  · right; rw [List.length_append] at k; omega
theorem WSt.push {H : Heap} {p : Nat} {o : Option Nat} {bs : List Bool} {err : Int} (h : WSt H p o bs err) (b : Option Blk) : WSt (H ++ [b]) p o bs err :=
  h.frame (O := []) ((Frm.refl _ _).push b) (by simp) (by simp)

theorem write_spec {H : Heap} {p : Nat} {o : Option Nat} {s : WS} {f : Fld} (h : WSt H p o s.bs s.err) (hlen : s.bs.length ≤ 524288) (hf : f.Ok) {K : Value → Heap → Prop}
    (hk : Wrote H p o (s.write f) K) : Op1 (AC tbl 15 [.pointer (some ⟨p, 0, none⟩), f.v] H) K := by
  apply AC_wp (F := F15) rfl (by simp [F15]) (.inl rfl)
  have hp := h.push (some ⟨true, [.int .i64 f.kind, .int .i64 f.width, .int .i64 f.n, .string f.s]⟩)
  have hk' := hk.push (some ⟨true, [.int .i64 f.kind, .int .i64 f.width, .int .i64 f.n, .string f.s]⟩)
  have hs := hf.size
  by_cases h0 : f.kind = 0
  · have e : s.write f = s.unsigned f.width f.n := by simp [WS.write, h0]
    rw [e] at hk'
    simp only [F15, Fld.v, ↓RW_seq, ↓AW_ret, ↓AW_skip, ↓AW_exit, ↓AW_block, ↓RW_cond, ↓RW_reg, ↓RW_regd, ↓RO_op, ↓RO_t, ↓RO_f, ↓RO_nt, ↓RO_nf, ↓RO_u, ↓AO_nil, ↓RD_op, ↓RD_t, ↓RD_f, ↓RD_nt, ↓RD_fe, ↓RD_nte, ↓RD_nf, ↓RD_u, ↓AOD_nil, CDops_eff, CDops_no, CDops_1, CDops_2, Again_nil, Again_cons, Same1_int, Same1_bool, Same1_str, Same1_ptr, Same1_slice, Same1_nil, CSeq_ap, CReg_ap, COps_ap, Then_normal, Then_ret, Then_exit, InBlock_normal, InBlock_ret, InBlock_self, InBlock_exit, Ends_ret, Ends_normal, ares, tup, finO_some, fin_same, fin_false, argsE, dval, aop, ev, evs, evo, evp, fillL, addrOf, intOf?, lk_put, lk_none, lk_cons, lk_nil, keep_nil, keep_cons, Op1_some, Option.map_some, Option.bind_some, reduceIte, Nat.reduceEqDiff, binV_lss, binV_leq, binV_gtr, binV_geq, binV_eql, binV_neq, binV_add, binV_sub, binV_mul, un_not, CondA_false, CondA_true, Bool.not_true, Bool.not_false, reduceCtorEq, decide_true, decide_false, Nat.add_zero, Nat.zero_add, Nat.reduceAdd, Nat.reduceMul, Bool.bne_false, Bool.bne_true, eqPtr, Option.isNone_some, Option.isNone_none, List.getElem?_cons_zero, List.getElem?_cons_succ, Option.isSome_none, Option.isSome_some , hload, hstore, List.length_cons, List.length_nil, Nat.reduceAdd, Nat.reduceLeDiff, decide_true, List.all_cons, List.all_nil, one, Bool.and_true, Bool.true_and, Bool.and_self, splice, List.set_cons_zero, List.set_cons_succ, List.getElem?_cons_zero, List.getElem?_cons_succ, vc_int, vc_slice, vc_str, vc_bool, vc_int', vc_slice', vc_str', vc_bool', List.length_set, List.length_append, Nat.lt_irrefl, Nat.lt_add_one, and_self, true_and, and_true, lenV, cellsOfSlice, Nat.le_refl, if_true , vc_agg', hget_append_self, h0] at hp hk' ⊢
    exact Op1_mono (unsigned_spec hp hlen hf.n hk') fun v H1 hv => by simpa only [↓RW_seq, ↓AW_ret, ↓AW_skip, ↓AW_exit, ↓AW_block, ↓RW_cond, ↓RW_reg, ↓RW_regd, ↓RO_op, ↓RO_t, ↓RO_f, ↓RO_nt, ↓RO_nf, ↓RO_u, ↓AO_nil, ↓RD_op, ↓RD_t, ↓RD_f, ↓RD_nt, ↓RD_fe, ↓RD_nte, ↓RD_nf, ↓RD_u, ↓AOD_nil, CDops_eff, CDops_no, CDops_1, CDops_2, Again_nil, Again_cons, Same1_int, Same1_bool, Same1_str, Same1_ptr, Same1_slice, Same1_nil, CSeq_ap, CReg_ap, COps_ap, Then_normal, Then_ret, Then_exit, InBlock_normal, InBlock_ret, InBlock_self, InBlock_exit, Ends_ret, Ends_normal, ares, tup, finO_some, fin_same, fin_false, argsE, dval, aop, ev, evs, evo, evp, fillL, addrOf, intOf?, lk_put, lk_none, lk_cons, lk_nil, keep_nil, keep_cons, Op1_some, Option.map_some, Option.bind_some, reduceIte, Nat.reduceEqDiff, binV_lss, binV_leq, binV_gtr, binV_geq, binV_eql, binV_neq, binV_add, binV_sub, binV_mul, un_not, CondA_false, CondA_true, Bool.not_true, Bool.not_false, reduceCtorEq, decide_true, decide_false, Nat.add_zero, Nat.zero_add, Nat.reduceAdd, Nat.reduceMul, Bool.bne_false, Bool.bne_true, eqPtr, Option.isNone_some, Option.isNone_none, List.getElem?_cons_zero, List.getElem?_cons_succ, Option.isSome_none, Option.isSome_some ] using hv
  · by_cases h1 : f.kind = 1
    · have e : s.write f = s.signed f.width f.n := by simp [WS.write, h1]
      rw [e] at hk'
      have n0 : ¬ (1 : Int) = 0 := by omega
      simp only [F15, Fld.v, ↓RW_seq, ↓AW_ret, ↓AW_skip, ↓AW_exit, ↓AW_block, ↓RW_cond, ↓RW_reg, ↓RW_regd, ↓RO_op, ↓RO_t, ↓RO_f, ↓RO_nt, ↓RO_nf, ↓RO_u, ↓AO_nil, ↓RD_op, ↓RD_t, ↓RD_f, ↓RD_nt, ↓RD_fe, ↓RD_nte, ↓RD_nf, ↓RD_u, ↓AOD_nil, CDops_eff, CDops_no, CDops_1, CDops_2, Again_nil, Again_cons, Same1_int, Same1_bool, Same1_str, Same1_ptr, Same1_slice, Same1_nil, CSeq_ap, CReg_ap, COps_ap, Then_normal, Then_ret, Then_exit, InBlock_normal, InBlock_ret, InBlock_self, InBlock_exit, Ends_ret, Ends_normal, ares, tup, finO_some, fin_same, fin_false, argsE, dval, aop, ev, evs, evo, evp, fillL, addrOf, intOf?, lk_put, lk_none, lk_cons, lk_nil, keep_nil, keep_cons, Op1_some, Option.map_some, Option.bind_some, reduceIte, Nat.reduceEqDiff, binV_lss, binV_leq, binV_gtr, binV_geq, binV_eql, binV_neq, binV_add, binV_sub, binV_mul, un_not, CondA_false, CondA_true, Bool.not_true, Bool.not_false, reduceCtorEq, decide_true, decide_false, Nat.add_zero, Nat.zero_add, Nat.reduceAdd, Nat.reduceMul, Bool.bne_false, Bool.bne_true, eqPtr, Option.isNone_some, Option.isNone_none, List.getElem?_cons_zero, List.getElem?_cons_succ, Option.isSome_none, Option.isSome_some , hload, hstore, List.length_cons, List.length_nil, Nat.reduceAdd, Nat.reduceLeDiff, decide_true, List.all_cons, List.all_nil, one, Bool.and_true, Bool.true_and, Bool.and_self, splice, List.set_cons_zero, List.set_cons_succ, List.getElem?_cons_zero, List.getElem?_cons_succ, vc_int, vc_slice, vc_str, vc_bool, vc_int', vc_slice', vc_str', vc_bool', List.length_set, List.length_append, Nat.lt_irrefl, Nat.lt_add_one, and_self, true_and, and_true, lenV, cellsOfSlice, Nat.le_refl, if_true , vc_agg', hget_append_self, h1, n0] at hp hk' ⊢
      exact Op1_mono (signed_spec hp hlen hk') fun v H1 hv => by simpa only [↓RW_seq, ↓AW_ret, ↓AW_skip, ↓AW_exit, ↓AW_block, ↓RW_cond, ↓RW_reg, ↓RW_regd, ↓RO_op, ↓RO_t, ↓RO_f, ↓RO_nt, ↓RO_nf, ↓RO_u, ↓AO_nil, ↓RD_op, ↓RD_t, ↓RD_f, ↓RD_nt, ↓RD_fe, ↓RD_nte, ↓RD_nf, ↓RD_u, ↓AOD_nil, CDops_eff, CDops_no, CDops_1, CDops_2, Again_nil, Again_cons, Same1_int, Same1_bool, Same1_str, Same1_ptr, Same1_slice, Same1_nil, CSeq_ap, CReg_ap, COps_ap, Then_normal, Then_ret, Then_exit, InBlock_normal, InBlock_ret, InBlock_self, InBlock_exit, Ends_ret, Ends_normal, ares, tup, finO_some, fin_same, fin_false, argsE, dval, aop, ev, evs, evo, evp, fillL, addrOf, intOf?, lk_put, lk_none, lk_cons, lk_nil, keep_nil, keep_cons, Op1_some, Option.map_some, Option.bind_some, reduceIte, Nat.reduceEqDiff, binV_lss, binV_leq, binV_gtr, binV_geq, binV_eql, binV_neq, binV_add, binV_sub, binV_mul, un_not, CondA_false, CondA_true, Bool.not_true, Bool.not_false, reduceCtorEq, decide_true, decide_false, Nat.add_zero, Nat.zero_add, Nat.reduceAdd, Nat.reduceMul, Bool.bne_false, Bool.bne_true, eqPtr, Option.isNone_some, Option.isNone_none, List.getElem?_cons_zero, List.getElem?_cons_succ, Option.isSome_none, Option.isSome_some ] using hv
    · by_cases h2 : f.kind = 2
      · have e : s.write f = s.flag (decide (f.n ≠ 0)) := by simp [WS.write, h2]
        rw [e] at hk'
        have n0 : ¬ (2 : Int) = 0 := by omega
        have n1 : ¬ (2 : Int) = 1 := by omega
        simp only [F15, Fld.v, ↓RW_seq, ↓AW_ret, ↓AW_skip, ↓AW_exit, ↓AW_block, ↓RW_cond, ↓RW_reg, ↓RW_regd, ↓RO_op, ↓RO_t, ↓RO_f, ↓RO_nt, ↓RO_nf, ↓RO_u, ↓AO_nil, ↓RD_op, ↓RD_t, ↓RD_f, ↓RD_nt, ↓RD_fe, ↓RD_nte, ↓RD_nf, ↓RD_u, ↓AOD_nil, CDops_eff, CDops_no, CDops_1, CDops_2, Again_nil, Again_cons, Same1_int, Same1_bool, Same1_str, Same1_ptr, Same1_slice, Same1_nil, CSeq_ap, CReg_ap, COps_ap, Then_normal, Then_ret, Then_exit, InBlock_normal, InBlock_ret, InBlock_self, InBlock_exit, Ends_ret, Ends_normal, ares, tup, finO_some, fin_same, fin_false, argsE, dval, aop, ev, evs, evo, evp, fillL, addrOf, intOf?, lk_put, lk_none, lk_cons, lk_nil, keep_nil, keep_cons, Op1_some, Option.map_some, Option.bind_some, reduceIte, Nat.reduceEqDiff, binV_lss, binV_leq, binV_gtr, binV_geq, binV_eql, binV_neq, binV_add, binV_sub, binV_mul, un_not, CondA_false, CondA_true, Bool.not_true, Bool.not_false, reduceCtorEq, decide_true, decide_false, Nat.add_zero, Nat.zero_add, Nat.reduceAdd, Nat.reduceMul, Bool.bne_false, Bool.bne_true, eqPtr, Option.isNone_some, Option.isNone_none, List.getElem?_cons_zero, List.getElem?_cons_succ, Option.isSome_none, Option.isSome_some , hload, hstore, List.length_cons, List.length_nil, Nat.reduceAdd, Nat.reduceLeDiff, decide_true, List.all_cons, List.all_nil, one, Bool.and_true, Bool.true_and, Bool.and_self, splice, List.set_cons_zero, List.set_cons_succ, List.getElem?_cons_zero, List.getElem?_cons_succ, vc_int, vc_slice, vc_str, vc_bool, vc_int', vc_slice', vc_str', vc_bool', List.length_set, List.length_append, Nat.lt_irrefl, Nat.lt_add_one, and_self, true_and, and_true, lenV, cellsOfSlice, Nat.le_refl, if_true , vc_agg', hget_append_self, h2, n0, n1] at hp hk' ⊢
        exact Op1_mono (flag_spec hp hlen hk') fun v H1 hv => by simpa only [↓RW_seq, ↓AW_ret, ↓AW_skip, ↓AW_exit, ↓AW_block, ↓RW_cond, ↓RW_reg, ↓RW_regd, ↓RO_op, ↓RO_t, ↓RO_f, ↓RO_nt, ↓RO_nf, ↓RO_u, ↓AO_nil, ↓RD_op, ↓RD_t, ↓RD_f, ↓RD_nt, ↓RD_fe, ↓RD_nte, ↓RD_nf, ↓RD_u, ↓AOD_nil, CDops_eff, CDops_no, CDops_1, CDops_2, Again_nil, Again_cons, Same1_int, Same1_bool, Same1_str, Same1_ptr, Same1_slice, Same1_nil, CSeq_ap, CReg_ap, COps_ap, Then_normal, Then_ret, Then_exit, InBlock_normal, InBlock_ret, InBlock_self, InBlock_exit, Ends_ret, Ends_normal, ares, tup, finO_some, fin_same, fin_false, argsE, dval, aop, ev, evs, evo, evp, fillL, addrOf, intOf?, lk_put, lk_none, lk_cons, lk_nil, keep_nil, keep_cons, Op1_some, Option.map_some, Option.bind_some, reduceIte, Nat.reduceEqDiff, binV_lss, binV_leq, binV_gtr, binV_geq, binV_eql, binV_neq, binV_add, binV_sub, binV_mul, un_not, CondA_false, CondA_true, Bool.not_true, Bool.not_false, reduceCtorEq, decide_true, decide_false, Nat.add_zero, Nat.zero_add, Nat.reduceAdd, Nat.reduceMul, Bool.bne_false, Bool.bne_true, eqPtr, Option.isNone_some, Option.isNone_none, List.getElem?_cons_zero, List.getElem?_cons_succ, Option.isSome_none, Option.isSome_some ] using hv
      · by_cases h3 : f.kind = 3
        · have e : s.write f = s.text f.width f.s := by simp [WS.write, h3]
          rw [e] at hk'
          have n0 : ¬ (3 : Int) = 0 := by omega
          have n1 : ¬ (3 : Int) = 1 := by omega
          have n2 : ¬ (3 : Int) = 2 := by omega
          simp only [F15, Fld.v, ↓RW_seq, ↓AW_ret, ↓AW_skip, ↓AW_exit, ↓AW_block, ↓RW_cond, ↓RW_reg, ↓RW_regd, ↓RO_op, ↓RO_t, ↓RO_f, ↓RO_nt, ↓RO_nf, ↓RO_u, ↓AO_nil, ↓RD_op, ↓RD_t, ↓RD_f, ↓RD_nt, ↓RD_fe, ↓RD_nte, ↓RD_nf, ↓RD_u, ↓AOD_nil, CDops_eff, CDops_no, CDops_1, CDops_2, Again_nil, Again_cons, Same1_int, Same1_bool, Same1_str, Same1_ptr, Same1_slice, Same1_nil, CSeq_ap, CReg_ap, COps_ap, Then_normal, Then_ret, Then_exit, InBlock_normal, InBlock_ret, InBlock_self, InBlock_exit, Ends_ret, Ends_normal, ares, tup, finO_some, fin_same, fin_false, argsE, dval, aop, ev, evs, evo, evp, fillL, addrOf, intOf?, lk_put, lk_none, lk_cons, lk_nil, keep_nil, keep_cons, Op1_some, Option.map_some, Option.bind_some, reduceIte, Nat.reduceEqDiff, binV_lss, binV_leq, binV_gtr, binV_geq, binV_eql, binV_neq, binV_add, binV_sub, binV_mul, un_not, CondA_false, CondA_true, Bool.not_true, Bool.not_false, reduceCtorEq, decide_true, decide_false, Nat.add_zero, Nat.zero_add, Nat.reduceAdd, Nat.reduceMul, Bool.bne_false, Bool.bne_true, eqPtr, Option.isNone_some, Option.isNone_none, List.getElem?_cons_zero, List.getElem?_cons_succ, Option.isSome_none, Option.isSome_some , hload, hstore, List.length_cons, List.length_nil, Nat.reduceAdd, Nat.reduceLeDiff, decide_true, List.all_cons, List.all_nil, one, Bool.and_true, Bool.true_and, Bool.and_self, splice, List.set_cons_zero, List.set_cons_succ, List.getElem?_cons_zero, List.getElem?_cons_succ, vc_int, vc_slice, vc_str, vc_bool, vc_int', vc_slice', vc_str', vc_bool', List.length_set, List.length_append, Nat.lt_irrefl, Nat.lt_add_one, and_self, true_and, and_true, lenV, cellsOfSlice, Nat.le_refl, if_true , vc_agg', hget_append_self, h3, n0, n1, n2] at hp hk' ⊢
          exact Op1_mono (text_spec hp hlen hf.width (by omega) hk') fun v H1 hv => by simpa only [↓RW_seq, ↓AW_ret, ↓AW_skip, ↓AW_exit, ↓AW_block, ↓RW_cond, ↓RW_reg, ↓RW_regd, ↓RO_op, ↓RO_t, ↓RO_f, ↓RO_nt, ↓RO_nf, ↓RO_u, ↓AO_nil, ↓RD_op, ↓RD_t, ↓RD_f, ↓RD_nt, ↓RD_fe, ↓RD_nte, ↓RD_nf, ↓RD_u, ↓AOD_nil, CDops_eff, CDops_no, CDops_1, CDops_2, Again_nil, Again_cons, Same1_int, Same1_bool, Same1_str, Same1_ptr, Same1_slice, Same1_nil, CSeq_ap, CReg_ap, COps_ap, Then_normal, Then_ret, Then_exit, InBlock_normal, InBlock_ret, InBlock_self, InBlock_exit, Ends_ret, Ends_normal, ares, tup, finO_some, fin_same, fin_false, argsE, dval, aop, ev, evs, evo, evp, fillL, addrOf, intOf?, lk_put, lk_none, lk_cons, lk_nil, keep_nil, keep_cons, Op1_some, Option.map_some, Option.bind_some, reduceIte, Nat.reduceEqDiff, binV_lss, binV_leq, binV_gtr, binV_geq, binV_eql, binV_neq, binV_add, binV_sub, binV_mul, un_not, CondA_false, CondA_true, Bool.not_true, Bool.not_false, reduceCtorEq, decide_true, decide_false, Nat.add_zero, Nat.zero_add, Nat.reduceAdd, Nat.reduceMul, Bool.bne_false, Bool.bne_true, eqPtr, Option.isNone_some, Option.isNone_none, List.getElem?_cons_zero, List.getElem?_cons_succ, Option.isSome_none, Option.isSome_some ] using hv
        · have e : s.write f = s := by simp [WS.write, h0, h1, h2, h3]
          rw [e] at hk'
          simp only [F15, Fld.v, ↓RW_seq, ↓AW_ret, ↓AW_skip, ↓AW_exit, ↓AW_block, ↓RW_cond, ↓RW_reg, ↓RW_regd, ↓RO_op, ↓RO_t, ↓RO_f, ↓RO_nt, ↓RO_nf, ↓RO_u, ↓AO_nil, ↓RD_op, ↓RD_t, ↓RD_f, ↓RD_nt, ↓RD_fe, ↓RD_nte, ↓RD_nf, ↓RD_u, ↓AOD_nil, CDops_eff, CDops_no, CDops_1, CDops_2, Again_nil, Again_cons, Same1_int, Same1_bool, Same1_str, Same1_ptr, Same1_slice, Same1_nil, CSeq_ap, CReg_ap, COps_ap, Then_normal, Then_ret, Then_exit, InBlock_normal, InBlock_ret, InBlock_self, InBlock_exit, Ends_ret, Ends_normal, ares, tup, finO_some, fin_same, fin_false, argsE, dval, aop, ev, evs, evo, evp, fillL, addrOf, intOf?, lk_put, lk_none, lk_cons, lk_nil, keep_nil, keep_cons, Op1_some, Option.map_some, Option.bind_some, reduceIte, Nat.reduceEqDiff, binV_lss, binV_leq, binV_gtr, binV_geq, binV_eql, binV_neq, binV_add, binV_sub, binV_mul, un_not, CondA_false, CondA_true, Bool.not_true, Bool.not_false, reduceCtorEq, decide_true, decide_false, Nat.add_zero, Nat.zero_add, Nat.reduceAdd, Nat.reduceMul, Bool.bne_false, Bool.bne_true, eqPtr, Option.isNone_some, Option.isNone_none, List.getElem?_cons_zero, List.getElem?_cons_succ, Option.isSome_none, Option.isSome_some , hload, hstore, List.length_cons, List.length_nil, Nat.reduceAdd, Nat.reduceLeDiff, decide_true, List.all_cons, List.all_nil, one, Bool.and_true, Bool.true_and, Bool.and_self, splice, List.set_cons_zero, List.set_cons_succ, List.getElem?_cons_zero, List.getElem?_cons_succ, vc_int, vc_slice, vc_str, vc_bool, vc_int', vc_slice', vc_str', vc_bool', List.length_set, List.length_append, Nat.lt_irrefl, Nat.lt_add_one, and_self, true_and, and_true, lenV, cellsOfSlice, Nat.le_refl, if_true , vc_agg', hget_append_self, h0, h1, h2, h3] at hp hk' ⊢
          exact hk' _ o hp (Frm.refl _ _) (fun q hq => .inl hq)

def RS.read (r : RS) (f : Fld) : Fld × RS :=
  if f.kind = 0 then ({ f with n := (r.unsigned f.width).1, s := ⟨#[]⟩ }, (r.unsigned f.width).2)
  else if f.kind = 1 then ({ f with n := (r.signed f.width).1, s := ⟨#[]⟩ }, (r.signed f.width).2)
  else if f.kind = 2 then (⟨f.kind, 0, if r.flag.1 then 1 else 0, ⟨#[]⟩⟩, r.flag.2)
  else if f.kind = 3 then ({ f with n := 0, s := (r.text f.width).1 }, (r.text f.width).2)
  else (f, r)

end Go.Proofs.Ytlbhbjaimcinbaa.AI

/- How the law reads a field. -/
set_option linter.unusedSimpArgs false
namespace Go.Proofs.Ytlbhbjaimcinbaa.AI
open Go

theorem take4 (a b c d : Value) : List.take 4 (List.drop 0 [a, b, c, d]) = [a, b, c, d] := rfl
theorem size4 (a b c d : Value) : (#[a, b, c, d] : Array Value).size = 4 := rfl
theorem list4 (a b c d : Value) : [a, b, c, d].toArray = #[a, b, c, d] := rfl

theorem read_spec {H : Heap} {p : Nat} {r : RS} {f : Fld} (h : RSt H p r) (ho : r.Ok) (hf : f.Ok) {K : Value → Heap → Prop}
    (hk : ∀ H', RSt H' p (r.read f).2 → Frm [p] H H' → K (r.read f).1.v H') : Op1 (AC tbl 22 [.pointer (some ⟨p, 0, none⟩), f.v] H) K := by
  apply AC_wp (F := F22) rfl (by simp [F22]) (.inl rfl)
  have hpl := h.lt
  -- the memory with the two local blocks
  generalize hG : H ++ [some ⟨true, [.int .i64 f.kind, .int .i64 f.width, .int .i64 f.n, .string f.s]⟩] ++ [some (⟨true, [.int .i64 0, .int .i64 0, .int .i64 0, .string ⟨#[]⟩]⟩ : Blk)] = G
  have hGl : G.length = H.length + 2 := by rw [← hG]; simp
  have hG3 : hget G H.length = some ⟨true, [.int .i64 f.kind, .int .i64 f.width, .int .i64 f.n, .string f.s]⟩ := by
    rw [← hG, hget_append_lt (by simp), hget_append_self]
  have hG4 : hget G (H.length + 1) = some ⟨true, [.int .i64 0, .int .i64 0, .int .i64 0, .string ⟨#[]⟩]⟩ := by
    rw [← hG, hget_app]; simp
  have hGp : RSt G p r := by
    unfold RSt; rw [← hG, hget_append_lt (by simp; omega), hget_append_lt hpl]; exact h
  have hGf : Frm [] H G := by rw [← hG]; exact ((Frm.refl _ _).push _).push _
  have ne1 : H.length ≠ H.length + 1 := by omega
  have ne2 : H.length + 1 ≠ H.length := by omega
  have np1 : H.length ≠ p := by omega
  have np2 : H.length + 1 ≠ p := by omega
  -- what is known of a memory behind the call
  have known : ∀ H', Frm [p] G H' → hget H' H.length = some ⟨true, [.int .i64 f.kind, .int .i64 f.width, .int .i64 f.n, .string f.s]⟩ ∧ hget H' (H.length + 1) = some ⟨true, [.int .i64 0, .int .i64 0, .int .i64 0, .string ⟨#[]⟩]⟩ ∧ H.length < H'.length ∧ H.length + 1 < H'.length := by
    intro H' hf'
    have := hf'.1
    exact ⟨by rw [hf'.2 _ (by omega) (by simpa using np1)]; exact hG3, by rw [hf'.2 _ (by omega) (by simpa using np2)]; exact hG4, by omega, by omega⟩
  have fin' : ∀ (H' : Heap) (a b : Option Blk) (r' : RS), RSt H' p r' → Frm [p] G H' → RSt ((H'.set H.length a).set (H.length + 1) b) p r' ∧ Frm [p] H ((H'.set H.length a).set (H.length + 1) b) := by
    intro H' a b r' h1 h2
    refine ⟨by unfold RSt; rw [hget_set_ne np2, hget_set_ne np1]; exact h1, ?_⟩
    refine (((hGf.mono (by simp)).trans h2 (fun i hi => .inl hi)).set _ (.inr (Nat.le_refl _))).set _ (.inr (by omega))
  by_cases h0 : f.kind = 0
  · have e := runsigned_spec (w := f.width) hGp ho
    have hrs := setR_st hGp.lt (r.unsigned f.width).2
    have hrf := setR_frm G p (r.unsigned f.width).2
    rw [show r.read f = ({ f with n := (r.unsigned f.width).1, s := ⟨#[]⟩ }, (r.unsigned f.width).2) by simp [RS.read, h0]] at hk
    generalize setR G p (r.unsigned f.width).2 = H' at *
    obtain ⟨q3, q4, l3, l4⟩ := known H' hrf
    rw [h0] at hG hG3 q3 hk
    simp only [F22, Fld.v, ↓RW_seq, ↓AW_ret, ↓AW_skip, ↓AW_exit, ↓AW_block, ↓RW_cond, ↓RW_reg, ↓RW_regd, ↓RO_op, ↓RO_t, ↓RO_f, ↓RO_nt, ↓RO_nf, ↓RO_u, ↓AO_nil, ↓RD_op, ↓RD_t, ↓RD_f, ↓RD_nt, ↓RD_fe, ↓RD_nte, ↓RD_nf, ↓RD_u, ↓AOD_nil, CDops_eff, CDops_no, CDops_1, CDops_2, Again_nil, Again_cons, Same1_int, Same1_bool, Same1_str, Same1_ptr, Same1_slice, Same1_nil, CSeq_ap, CReg_ap, COps_ap, Then_normal, Then_ret, Then_exit, InBlock_normal, InBlock_ret, InBlock_self, InBlock_exit, Ends_ret, Ends_normal, ares, tup, finO_some, fin_same, fin_false, argsE, dval, aop, ev, evs, evo, evp, fillL, addrOf, intOf?, lk_put, lk_none, lk_cons, lk_nil, keep_nil, keep_cons, Op1_some, Option.map_some, Option.bind_some, reduceIte, Nat.reduceEqDiff, binV_lss, binV_leq, binV_gtr, binV_geq, binV_eql, binV_neq, binV_add, binV_sub, binV_mul, un_not, CondA_false, CondA_true, Bool.not_true, Bool.not_false, reduceCtorEq, decide_true, decide_false, Nat.add_zero, Nat.zero_add, Nat.reduceAdd, Nat.reduceMul, Bool.bne_false, Bool.bne_true, eqPtr, Option.isNone_some, Option.isNone_none, List.getElem?_cons_zero, List.getElem?_cons_succ, Option.isSome_none, Option.isSome_some , hload, hstore, List.length_cons, List.length_nil, Nat.reduceAdd, Nat.reduceLeDiff, decide_true, List.all_cons, List.all_nil, one, Bool.and_true, Bool.true_and, Bool.and_self, splice, List.set_cons_zero, List.set_cons_succ, List.getElem?_cons_zero, List.getElem?_cons_succ, vc_int, vc_slice, vc_str, vc_bool, vc_int', vc_slice', vc_str', vc_bool', List.length_set, List.length_append, Nat.lt_irrefl, Nat.lt_add_one, and_self, true_and, and_true, lenV, cellsOfSlice, Nat.le_refl, if_true , vc_agg', hG, hG3, h0, e, q3, q4, hget_set_self, hget_set_ne, l3, l4, ne1, ne2, ne_eq, not_false_eq_true, List.set_set, take4, size4, list4]
    exact hk _ (fin' H' _ _ _ hrs hrf).1 (fin' H' _ _ _ hrs hrf).2
  · by_cases h1 : f.kind = 1
    · have e := rsigned_spec (w := f.width) hGp ho
      have hrs := setR_st hGp.lt (r.signed f.width).2
      have hrf := setR_frm G p (r.signed f.width).2
      rw [show r.read f = ({ f with n := (r.signed f.width).1, s := ⟨#[]⟩ }, (r.signed f.width).2) by simp [RS.read, h1]] at hk
      generalize setR G p (r.signed f.width).2 = H' at *
      obtain ⟨q3, q4, l3, l4⟩ := known H' hrf
      rw [h1] at hG hG3 q3 hk
      have n0 : ¬ (1 : Int) = 0 := by omega
      simp only [F22, Fld.v, ↓RW_seq, ↓AW_ret, ↓AW_skip, ↓AW_exit, ↓AW_block, ↓RW_cond, ↓RW_reg, ↓RW_regd, ↓RO_op, ↓RO_t, ↓RO_f, ↓RO_nt, ↓RO_nf, ↓RO_u, ↓AO_nil, ↓RD_op, ↓RD_t, ↓RD_f, ↓RD_nt, ↓RD_fe, ↓RD_nte, ↓RD_nf, ↓RD_u, ↓AOD_nil, CDops_eff, CDops_no, CDops_1, CDops_2, Again_nil, Again_cons, Same1_int, Same1_bool, Same1_str, Same1_ptr, Same1_slice, Same1_nil, CSeq_ap, CReg_ap, COps_ap, Then_normal, Then_ret, Then_exit, InBlock_normal, InBlock_ret, InBlock_self, InBlock_exit, Ends_ret, Ends_normal, ares, tup, finO_some, fin_same, fin_false, argsE, dval, aop, ev, evs, evo, evp, fillL, addrOf, intOf?, lk_put, lk_none, lk_cons, lk_nil, keep_nil, keep_cons, Op1_some, Option.map_some, Option.bind_some, reduceIte, Nat.reduceEqDiff, binV_lss, binV_leq, binV_gtr, binV_geq, binV_eql, binV_neq, binV_add, binV_sub, binV_mul, un_not, CondA_false, CondA_true, Bool.not_true, Bool.not_false, reduceCtorEq, decide_true, decide_false, Nat.add_zero, Nat.zero_add, Nat.reduceAdd, Nat.reduceMul, Bool.bne_false, Bool.bne_true, eqPtr, Option.isNone_some, Option.isNone_none, List.getElem?_cons_zero, List.getElem?_cons_succ, Option.isSome_none, Option.isSome_some , hload, hstore, List.length_cons, List.length_nil, Nat.reduceAdd, Nat.reduceLeDiff, decide_true, List.all_cons, List.all_nil, one, Bool.and_true, Bool.true_and, Bool.and_self, splice, List.set_cons_zero, List.set_cons_succ, List.getElem?_cons_zero, List.getElem?_cons_succ, vc_int, vc_slice, vc_str, vc_bool, vc_int', vc_slice', vc_str', vc_bool', List.length_set, List.length_append, Nat.lt_irrefl, Nat.lt_add_one, and_self, true_and, and_true, lenV, cellsOfSlice, Nat.le_refl, if_true , vc_agg', hG, hG3, h1, n0, e, q3, q4, hget_set_self, hget_set_ne, l3, l4, ne1, ne2, ne_eq, not_false_eq_true, List.set_set, take4, size4, list4]
      exact hk _ (fin' H' _ _ _ hrs hrf).1 (fin' H' _ _ _ hrs hrf).2
    · by_cases h2 : f.kind = 2
      · have n0 : ¬ (2 : Int) = 0 := by omega
        have n1 : ¬ (2 : Int) = 1 := by omega
        have hgl : H.length < G.length := by omega
        have hG2p : RSt (G.set H.length (some ⟨true, [.int .i64 2, .int .i64 0, .int .i64 0, .string ⟨#[]⟩]⟩)) p r := by
          unfold RSt; rw [hget_set_ne np1]; exact hGp
        have e := rflag_spec hG2p ho
        have hrs := setR_st hG2p.lt r.flag.2
        have hrf0 := setR_frm (G.set H.length (some ⟨true, [.int .i64 2, .int .i64 0, .int .i64 0, .string ⟨#[]⟩]⟩)) p r.flag.2
        rw [show r.read f = (⟨f.kind, 0, if r.flag.1 then 1 else 0, ⟨#[]⟩⟩, r.flag.2) by simp [RS.read, h2]] at hk
        generalize setR (G.set H.length (some ⟨true, [.int .i64 2, .int .i64 0, .int .i64 0, .string ⟨#[]⟩]⟩)) p r.flag.2 = H' at *
        have q3 : hget H' H.length = some ⟨true, [.int .i64 2, .int .i64 0, .int .i64 0, .string ⟨#[]⟩]⟩ := by
          rw [hrf0.2 _ (by simp; omega) (by simpa using np1), hget_set_self hgl]
        have q4 : hget H' (H.length + 1) = some ⟨true, [.int .i64 0, .int .i64 0, .int .i64 0, .string ⟨#[]⟩]⟩ := by
          rw [hrf0.2 _ (by simp; omega) (by simpa using np2), hget_set_ne ne1]; exact hG4
        have l3 : H.length < H'.length := by have := hrf0.1; simp at this; omega
        have l4 : H.length + 1 < H'.length := by have := hrf0.1; simp at this; omega
        have fin2 : ∀ (a b : Option Blk), RSt ((H'.set H.length a).set (H.length + 1) b) p r.flag.2 ∧ Frm [p] H ((H'.set H.length a).set (H.length + 1) b) := by
          intro a b
          refine ⟨by unfold RSt; rw [hget_set_ne np2, hget_set_ne np1]; exact hrs, ?_⟩
          refine (((Frm.set (hGf.mono (by simp)) _ (.inr (Nat.le_refl _))).trans hrf0 (fun i hi => .inl hi)).set _ (.inr (Nat.le_refl _))).set _ (.inr (by omega))
        have fin3 : ∀ (b : Option Blk), RSt (H'.set (H.length + 1) b) p r.flag.2 ∧ Frm [p] H (H'.set (H.length + 1) b) := by
          intro b
          refine ⟨by unfold RSt; rw [hget_set_ne np2]; exact hrs, ?_⟩
          refine ((Frm.set (hGf.mono (by simp)) _ (.inr (Nat.le_refl _))).trans hrf0 (fun i hi => .inl hi)).set _ (.inr (by omega))
        rw [h2] at hG hG3 hk
        cases hb : r.flag.1 with
        | true =>
          rw [hb] at hk e
          simp only [F22, Fld.v, ↓RW_seq, ↓AW_ret, ↓AW_skip, ↓AW_exit, ↓AW_block, ↓RW_cond, ↓RW_reg, ↓RW_regd, ↓RO_op, ↓RO_t, ↓RO_f, ↓RO_nt, ↓RO_nf, ↓RO_u, ↓AO_nil, ↓RD_op, ↓RD_t, ↓RD_f, ↓RD_nt, ↓RD_fe, ↓RD_nte, ↓RD_nf, ↓RD_u, ↓AOD_nil, CDops_eff, CDops_no, CDops_1, CDops_2, Again_nil, Again_cons, Same1_int, Same1_bool, Same1_str, Same1_ptr, Same1_slice, Same1_nil, CSeq_ap, CReg_ap, COps_ap, Then_normal, Then_ret, Then_exit, InBlock_normal, InBlock_ret, InBlock_self, InBlock_exit, Ends_ret, Ends_normal, ares, tup, finO_some, fin_same, fin_false, argsE, dval, aop, ev, evs, evo, evp, fillL, addrOf, intOf?, lk_put, lk_none, lk_cons, lk_nil, keep_nil, keep_cons, Op1_some, Option.map_some, Option.bind_some, reduceIte, Nat.reduceEqDiff, binV_lss, binV_leq, binV_gtr, binV_geq, binV_eql, binV_neq, binV_add, binV_sub, binV_mul, un_not, CondA_false, CondA_true, Bool.not_true, Bool.not_false, reduceCtorEq, decide_true, decide_false, Nat.add_zero, Nat.zero_add, Nat.reduceAdd, Nat.reduceMul, Bool.bne_false, Bool.bne_true, eqPtr, Option.isNone_some, Option.isNone_none, List.getElem?_cons_zero, List.getElem?_cons_succ, Option.isSome_none, Option.isSome_some , hload, hstore, List.length_cons, List.length_nil, Nat.reduceAdd, Nat.reduceLeDiff, decide_true, List.all_cons, List.all_nil, one, Bool.and_true, Bool.true_and, Bool.and_self, splice, List.set_cons_zero, List.set_cons_succ, List.getElem?_cons_zero, List.getElem?_cons_succ, vc_int, vc_slice, vc_str, vc_bool, vc_int', vc_slice', vc_str', vc_bool', List.length_set, List.length_append, Nat.lt_irrefl, Nat.lt_add_one, and_self, true_and, and_true, lenV, cellsOfSlice, Nat.le_refl, if_true , vc_agg', hG, hG3, h2, n0, n1, e, q3, q4, hget_set_self, hget_set_ne, l3, l4, hgl, ne1, ne2, ne_eq, not_false_eq_true, List.set_set, take4, size4, list4]
          exact hk _ (fin2 _ _).1 (fin2 _ _).2
        | false =>
          rw [hb] at hk e
          simp only [F22, Fld.v, ↓RW_seq, ↓AW_ret, ↓AW_skip, ↓AW_exit, ↓AW_block, ↓RW_cond, ↓RW_reg, ↓RW_regd, ↓RO_op, ↓RO_t, ↓RO_f, ↓RO_nt, ↓RO_nf, ↓RO_u, ↓AO_nil, ↓RD_op, ↓RD_t, ↓RD_f, ↓RD_nt, ↓RD_fe, ↓RD_nte, ↓RD_nf, ↓RD_u, ↓AOD_nil, CDops_eff, CDops_no, CDops_1, CDops_2, Again_nil, Again_cons, Same1_int, Same1_bool, Same1_str, Same1_ptr, Same1_slice, Same1_nil, CSeq_ap, CReg_ap, COps_ap, Then_normal, Then_ret, Then_exit, InBlock_normal, InBlock_ret, InBlock_self, InBlock_exit, Ends_ret, Ends_normal, ares, tup, finO_some, fin_same, fin_false, argsE, dval, aop, ev, evs, evo, evp, fillL, addrOf, intOf?, lk_put, lk_none, lk_cons, lk_nil, keep_nil, keep_cons, Op1_some, Option.map_some, Option.bind_some, reduceIte, Nat.reduceEqDiff, binV_lss, binV_leq, binV_gtr, binV_geq, binV_eql, binV_neq, binV_add, binV_sub, binV_mul, un_not, CondA_false, CondA_true, Bool.not_true, Bool.not_false, reduceCtorEq, decide_true, decide_false, Nat.add_zero, Nat.zero_add, Nat.reduceAdd, Nat.reduceMul, Bool.bne_false, Bool.bne_true, eqPtr, Option.isNone_some, Option.isNone_none, List.getElem?_cons_zero, List.getElem?_cons_succ, Option.isSome_none, Option.isSome_some , hload, hstore, List.length_cons, List.length_nil, Nat.reduceAdd, Nat.reduceLeDiff, decide_true, List.all_cons, List.all_nil, one, Bool.and_true, Bool.true_and, Bool.and_self, splice, List.set_cons_zero, List.set_cons_succ, List.getElem?_cons_zero, List.getElem?_cons_succ, vc_int, vc_slice, vc_str, vc_bool, vc_int', vc_slice', vc_str', vc_bool', List.length_set, List.length_append, Nat.lt_irrefl, Nat.lt_add_one, and_self, true_and, and_true, lenV, cellsOfSlice, Nat.le_refl, if_true , vc_agg', hG, hG3, h2, n0, n1, e, q3, q4, hget_set_self, hget_set_ne, l3, l4, hgl, ne1, ne2, ne_eq, not_false_eq_true, List.set_set, take4, size4, list4]
          exact hk _ (fin3 _).1 (fin3 _).2
      · by_cases h3 : f.kind = 3
        · have n0 : ¬ (3 : Int) = 0 := by omega
          have n1 : ¬ (3 : Int) = 1 := by omega
          have n2 : ¬ (3 : Int) = 2 := by omega
          rw [show r.read f = ({ f with n := 0, s := (r.text f.width).1 }, (r.text f.width).2) by simp [RS.read, h3]] at hk
          have known3 := known
          rw [h3] at hG hG3 hk
          simp only [F22, Fld.v, ↓RW_seq, ↓AW_ret, ↓AW_skip, ↓AW_exit, ↓AW_block, ↓RW_cond, ↓RW_reg, ↓RW_regd, ↓RO_op, ↓RO_t, ↓RO_f, ↓RO_nt, ↓RO_nf, ↓RO_u, ↓AO_nil, ↓RD_op, ↓RD_t, ↓RD_f, ↓RD_nt, ↓RD_fe, ↓RD_nte, ↓RD_nf, ↓RD_u, ↓AOD_nil, CDops_eff, CDops_no, CDops_1, CDops_2, Again_nil, Again_cons, Same1_int, Same1_bool, Same1_str, Same1_ptr, Same1_slice, Same1_nil, CSeq_ap, CReg_ap, COps_ap, Then_normal, Then_ret, Then_exit, InBlock_normal, InBlock_ret, InBlock_self, InBlock_exit, Ends_ret, Ends_normal, ares, tup, finO_some, fin_same, fin_false, argsE, dval, aop, ev, evs, evo, evp, fillL, addrOf, intOf?, lk_put, lk_none, lk_cons, lk_nil, keep_nil, keep_cons, Op1_some, Option.map_some, Option.bind_some, reduceIte, Nat.reduceEqDiff, binV_lss, binV_leq, binV_gtr, binV_geq, binV_eql, binV_neq, binV_add, binV_sub, binV_mul, un_not, CondA_false, CondA_true, Bool.not_true, Bool.not_false, reduceCtorEq, decide_true, decide_false, Nat.add_zero, Nat.zero_add, Nat.reduceAdd, Nat.reduceMul, Bool.bne_false, Bool.bne_true, eqPtr, Option.isNone_some, Option.isNone_none, List.getElem?_cons_zero, List.getElem?_cons_succ, Option.isSome_none, Option.isSome_some , hload, hstore, List.length_cons, List.length_nil, Nat.reduceAdd, Nat.reduceLeDiff, decide_true, List.all_cons, List.all_nil, one, Bool.and_true, Bool.true_and, Bool.and_self, splice, List.set_cons_zero, List.set_cons_succ, List.getElem?_cons_zero, List.getElem?_cons_succ, vc_int, vc_slice, vc_str, vc_bool, vc_int', vc_slice', vc_str', vc_bool', List.length_set, List.length_append, Nat.lt_irrefl, Nat.lt_add_one, and_self, true_and, and_true, lenV, cellsOfSlice, Nat.le_refl, if_true , vc_agg', hG, hG3, h3, n0, n1, n2]
          refine rtext_spec hGp ho hf.width fun H' hrs hrf => ?_
          obtain ⟨q3, q4, l3, l4⟩ := known3 H' hrf
          rw [h3] at q3
          simp only [↓RW_seq, ↓AW_ret, ↓AW_skip, ↓AW_exit, ↓AW_block, ↓RW_cond, ↓RW_reg, ↓RW_regd, ↓RO_op, ↓RO_t, ↓RO_f, ↓RO_nt, ↓RO_nf, ↓RO_u, ↓AO_nil, ↓RD_op, ↓RD_t, ↓RD_f, ↓RD_nt, ↓RD_fe, ↓RD_nte, ↓RD_nf, ↓RD_u, ↓AOD_nil, CDops_eff, CDops_no, CDops_1, CDops_2, Again_nil, Again_cons, Same1_int, Same1_bool, Same1_str, Same1_ptr, Same1_slice, Same1_nil, CSeq_ap, CReg_ap, COps_ap, Then_normal, Then_ret, Then_exit, InBlock_normal, InBlock_ret, InBlock_self, InBlock_exit, Ends_ret, Ends_normal, ares, tup, finO_some, fin_same, fin_false, argsE, dval, aop, ev, evs, evo, evp, fillL, addrOf, intOf?, lk_put, lk_none, lk_cons, lk_nil, keep_nil, keep_cons, Op1_some, Option.map_some, Option.bind_some, reduceIte, Nat.reduceEqDiff, binV_lss, binV_leq, binV_gtr, binV_geq, binV_eql, binV_neq, binV_add, binV_sub, binV_mul, un_not, CondA_false, CondA_true, Bool.not_true, Bool.not_false, reduceCtorEq, decide_true, decide_false, Nat.add_zero, Nat.zero_add, Nat.reduceAdd, Nat.reduceMul, Bool.bne_false, Bool.bne_true, eqPtr, Option.isNone_some, Option.isNone_none, List.getElem?_cons_zero, List.getElem?_cons_succ, Option.isSome_none, Option.isSome_some , hload, hstore, List.length_cons, List.length_nil, Nat.reduceAdd, Nat.reduceLeDiff, decide_true, List.all_cons, List.all_nil, one, Bool.and_true, Bool.true_and, Bool.and_self, splice, List.set_cons_zero, List.set_cons_succ, List.getElem?_cons_zero, List.getElem?_cons_succ, vc_int, vc_slice, vc_str, vc_bool, vc_int', vc_slice', vc_str', vc_bool', List.length_set, List.length_append, Nat.lt_irrefl, Nat.lt_add_one, and_self, true_and, and_true, lenV, cellsOfSlice, Nat.le_refl, if_true , vc_agg', q3, q4, hget_set_self, hget_set_ne, l3, l4, ne1, ne2, ne_eq, not_false_eq_true, List.set_set, take4, size4, list4]
          exact hk _ (fin' H' _ _ _ hrs hrf).1 (fin' H' _ _ _ hrs hrf).2
        · rw [show r.read f = (f, r) by simp [RS.read, h0, h1, h2, h3]] at hk
          have hgl1 : H.length + 1 < G.length := by omega
          simp only [F22, Fld.v, ↓RW_seq, ↓AW_ret, ↓AW_skip, ↓AW_exit, ↓AW_block, ↓RW_cond, ↓RW_reg, ↓RW_regd, ↓RO_op, ↓RO_t, ↓RO_f, ↓RO_nt, ↓RO_nf, ↓RO_u, ↓AO_nil, ↓RD_op, ↓RD_t, ↓RD_f, ↓RD_nt, ↓RD_fe, ↓RD_nte, ↓RD_nf, ↓RD_u, ↓AOD_nil, CDops_eff, CDops_no, CDops_1, CDops_2, Again_nil, Again_cons, Same1_int, Same1_bool, Same1_str, Same1_ptr, Same1_slice, Same1_nil, CSeq_ap, CReg_ap, COps_ap, Then_normal, Then_ret, Then_exit, InBlock_normal, InBlock_ret, InBlock_self, InBlock_exit, Ends_ret, Ends_normal, ares, tup, finO_some, fin_same, fin_false, argsE, dval, aop, ev, evs, evo, evp, fillL, addrOf, intOf?, lk_put, lk_none, lk_cons, lk_nil, keep_nil, keep_cons, Op1_some, Option.map_some, Option.bind_some, reduceIte, Nat.reduceEqDiff, binV_lss, binV_leq, binV_gtr, binV_geq, binV_eql, binV_neq, binV_add, binV_sub, binV_mul, un_not, CondA_false, CondA_true, Bool.not_true, Bool.not_false, reduceCtorEq, decide_true, decide_false, Nat.add_zero, Nat.zero_add, Nat.reduceAdd, Nat.reduceMul, Bool.bne_false, Bool.bne_true, eqPtr, Option.isNone_some, Option.isNone_none, List.getElem?_cons_zero, List.getElem?_cons_succ, Option.isSome_none, Option.isSome_some , hload, hstore, List.length_cons, List.length_nil, Nat.reduceAdd, Nat.reduceLeDiff, decide_true, List.all_cons, List.all_nil, one, Bool.and_true, Bool.true_and, Bool.and_self, splice, List.set_cons_zero, List.set_cons_succ, List.getElem?_cons_zero, List.getElem?_cons_succ, vc_int, vc_slice, vc_str, vc_bool, vc_int', vc_slice', vc_str', vc_bool', List.length_set, List.length_append, Nat.lt_irrefl, Nat.lt_add_one, and_self, true_and, and_true, lenV, cellsOfSlice, Nat.le_refl, if_true , vc_agg', hG, hG3, hG4, h0, h1, h2, h3, hget_set_self, hgl1, take4, size4, list4]
          refine hk _ (by unfold RSt; rw [hget_set_ne np2]; exact hGp) ((hGf.mono (by simp)).set _ (.inr (by omega)))

end Go.Proofs.Ytlbhbjaimcinbaa.AI

/- Lists of fields, and whether they are few and short. -/
set_option linter.unusedSimpArgs false
namespace Go.Proofs.Ytlbhbjaimcinbaa.AI
open Go

def flat (l : List Fld) : List Value := (l.map Fld.cells).flatten
theorem flat_length (l : List Fld) : (flat l).length = 4 * l.length := by
  induction l with
  | nil => rfl
  | cons f l ih => simp only [flat, List.map_cons, List.flatten_cons, List.length_append, List.length_cons] at ih ⊢; rw [ih]; simp [Fld.cells]; omega
theorem flat_get : ∀ (l : List Fld) (i : Nat) (f : Fld), l[i]? = some f → List.take 4 (List.drop (i * 4) (flat l)) = f.cells := by
  intro l
  induction l with
  | nil => intro i f h; simp at h
  | cons g l ih =>
    intro i f h
    cases i with
    | zero => simp at h; subst h; simp [flat, Fld.cells]
    | succ i =>
      have := ih i f (by simpa using h)
      rw [← this]
      rw [show (i + 1) * 4 = i * 4 + 4 by omega]
      rfl

/-- A list of fields, as an argument. -/
def LA (H : Heap) (v : Value) (l : List Fld) : Prop := (v = .slice none 0 0 ∧ l = []) ∨ ∃ b, v = .slice (some ⟨b, 0, none⟩) l.length 4 ∧ (l = [] ∨ hget H b = some ⟨false, flat l⟩)
/-- The list stays where its block is not written. -/
def LAout (v : Value) (O : List Nat) : Prop := ∀ b n z, v = .slice (some ⟨b, 0, none⟩) n z → b ∉ O

def fewB (l : List Fld) : Bool := decide (l.length ≤ 40) && l.all fun f => decide (f.s.size ≤ 200)

theorem few_spec {H : Heap} {v : Value} {l : List Fld} (h : LA H v l) {K : Value → Heap → Prop} (hk : ∀ H', Frm [] H H' → K (.bool (fewB l)) H') : Op1 (AC tbl 12 [v] H) K := by
  apply AC_wp (F := F12) rfl (by simp [F12]) (.inl rfl)
  have main : ∀ (b : Option Addr) (z : Nat), v = .slice b l.length z → (∀ (i : Nat) (f : Fld), l[i]? = some f → ∃ q, b = some ⟨q, 0, none⟩ ∧ z = 4 ∧ hget H q = some ⟨false, flat l⟩) → AW tbl F12.body (argsE 0 [v]) H (Ends F12.results F12.trunc H.length K) := by
    rintro b z rfl hb
    by_cases h40 : (40 : Int) < (l.length : Int)
    · have : fewB l = false := by have : ¬ l.length ≤ 40 := by omega
                                  simp [fewB, this]
      rw [this] at hk
      simp only [F12, ↓RW_seq, ↓AW_ret, ↓AW_skip, ↓AW_exit, ↓AW_block, ↓RW_cond, ↓RW_reg, ↓RW_regd, ↓RO_op, ↓RO_t, ↓RO_f, ↓RO_nt, ↓RO_nf, ↓RO_u, ↓AO_nil, ↓RD_op, ↓RD_t, ↓RD_f, ↓RD_nt, ↓RD_fe, ↓RD_nte, ↓RD_nf, ↓RD_u, ↓AOD_nil, CDops_eff, CDops_no, CDops_1, CDops_2, Again_nil, Again_cons, Same1_int, Same1_bool, Same1_str, Same1_ptr, Same1_slice, Same1_nil, CSeq_ap, CReg_ap, COps_ap, Then_normal, Then_ret, Then_exit, InBlock_normal, InBlock_ret, InBlock_self, InBlock_exit, Ends_ret, Ends_normal, ares, tup, finO_some, fin_same, fin_false, argsE, dval, aop, ev, evs, evo, evp, fillL, addrOf, intOf?, lk_put, lk_none, lk_cons, lk_nil, keep_nil, keep_cons, Op1_some, Option.map_some, Option.bind_some, reduceIte, Nat.reduceEqDiff, binV_lss, binV_leq, binV_gtr, binV_geq, binV_eql, binV_neq, binV_add, binV_sub, binV_mul, un_not, CondA_false, CondA_true, Bool.not_true, Bool.not_false, reduceCtorEq, decide_true, decide_false, Nat.add_zero, Nat.zero_add, Nat.reduceAdd, Nat.reduceMul, Bool.bne_false, Bool.bne_true, eqPtr, Option.isNone_some, Option.isNone_none, List.getElem?_cons_zero, List.getElem?_cons_succ, Option.isSome_none, Option.isSome_some , hload, hstore, List.length_cons, List.length_nil, Nat.reduceAdd, Nat.reduceLeDiff, decide_true, List.all_cons, List.all_nil, one, Bool.and_true, Bool.true_and, Bool.and_self, splice, List.set_cons_zero, List.set_cons_succ, List.getElem?_cons_zero, List.getElem?_cons_succ, vc_int, vc_slice, vc_str, vc_bool, vc_int', vc_slice', vc_str', vc_bool', List.length_set, List.length_append, Nat.lt_irrefl, Nat.lt_add_one, and_self, true_and, and_true, lenV, cellsOfSlice, Nat.le_refl, if_true , h40]
      exact hk _ (Frm.refl _ _)
    · simp only [F12, ↓RW_seq, ↓AW_ret, ↓AW_skip, ↓AW_exit, ↓AW_block, ↓RW_cond, ↓RW_reg, ↓RW_regd, ↓RO_op, ↓RO_t, ↓RO_f, ↓RO_nt, ↓RO_nf, ↓RO_u, ↓AO_nil, ↓RD_op, ↓RD_t, ↓RD_f, ↓RD_nt, ↓RD_fe, ↓RD_nte, ↓RD_nf, ↓RD_u, ↓AOD_nil, CDops_eff, CDops_no, CDops_1, CDops_2, Again_nil, Again_cons, Same1_int, Same1_bool, Same1_str, Same1_ptr, Same1_slice, Same1_nil, CSeq_ap, CReg_ap, COps_ap, Then_normal, Then_ret, Then_exit, InBlock_normal, InBlock_ret, InBlock_self, InBlock_exit, Ends_ret, Ends_normal, ares, tup, finO_some, fin_same, fin_false, argsE, dval, aop, ev, evs, evo, evp, fillL, addrOf, intOf?, lk_put, lk_none, lk_cons, lk_nil, keep_nil, keep_cons, Op1_some, Option.map_some, Option.bind_some, reduceIte, Nat.reduceEqDiff, binV_lss, binV_leq, binV_gtr, binV_geq, binV_eql, binV_neq, binV_add, binV_sub, binV_mul, un_not, CondA_false, CondA_true, Bool.not_true, Bool.not_false, reduceCtorEq, decide_true, decide_false, Nat.add_zero, Nat.zero_add, Nat.reduceAdd, Nat.reduceMul, Bool.bne_false, Bool.bne_true, eqPtr, Option.isNone_some, Option.isNone_none, List.getElem?_cons_zero, List.getElem?_cons_succ, Option.isSome_none, Option.isSome_some , hload, hstore, List.length_cons, List.length_nil, Nat.reduceAdd, Nat.reduceLeDiff, decide_true, List.all_cons, List.all_nil, one, Bool.and_true, Bool.true_and, Bool.and_self, splice, List.set_cons_zero, List.set_cons_succ, List.getElem?_cons_zero, List.getElem?_cons_succ, vc_int, vc_slice, vc_str, vc_bool, vc_int', vc_slice', vc_str', vc_bool', List.length_set, List.length_append, Nat.lt_irrefl, Nat.lt_add_one, and_self, true_and, and_true, lenV, cellsOfSlice, Nat.le_refl, if_true , h40]
      apply AW_loop_inv (fun j e H1 => j ≤ l.length ∧ e = [(8, .slice b l.length z), (9, .int .i64 (l.length : Int)), (10, .int .i64 ((l.length - j : Nat) : Int))] ∧ Frm [] H H1 ∧ ∀ f ∈ l.take (l.length - j), f.s.size ≤ 200) _ l.length
      · exact ⟨Nat.le_refl _, by rw [Nat.sub_self]; rfl, Frm.refl _ _, by simp⟩
      · rintro j e H1 ⟨hj, rfl, hf, hall⟩
        cases j with
        | zero =>
          have g0 : ¬ (l.length : Int) < (l.length : Int) := by omega
          simp only [↓RW_seq, ↓AW_ret, ↓AW_skip, ↓AW_exit, ↓AW_block, ↓RW_cond, ↓RW_reg, ↓RW_regd, ↓RO_op, ↓RO_t, ↓RO_f, ↓RO_nt, ↓RO_nf, ↓RO_u, ↓AO_nil, ↓RD_op, ↓RD_t, ↓RD_f, ↓RD_nt, ↓RD_fe, ↓RD_nte, ↓RD_nf, ↓RD_u, ↓AOD_nil, CDops_eff, CDops_no, CDops_1, CDops_2, Again_nil, Again_cons, Same1_int, Same1_bool, Same1_str, Same1_ptr, Same1_slice, Same1_nil, CSeq_ap, CReg_ap, COps_ap, Then_normal, Then_ret, Then_exit, InBlock_normal, InBlock_ret, InBlock_self, InBlock_exit, Ends_ret, Ends_normal, ares, tup, finO_some, fin_same, fin_false, argsE, dval, aop, ev, evs, evo, evp, fillL, addrOf, intOf?, lk_put, lk_none, lk_cons, lk_nil, keep_nil, keep_cons, Op1_some, Option.map_some, Option.bind_some, reduceIte, Nat.reduceEqDiff, binV_lss, binV_leq, binV_gtr, binV_geq, binV_eql, binV_neq, binV_add, binV_sub, binV_mul, un_not, CondA_false, CondA_true, Bool.not_true, Bool.not_false, reduceCtorEq, decide_true, decide_false, Nat.add_zero, Nat.zero_add, Nat.reduceAdd, Nat.reduceMul, Bool.bne_false, Bool.bne_true, eqPtr, Option.isNone_some, Option.isNone_none, List.getElem?_cons_zero, List.getElem?_cons_succ, Option.isSome_none, Option.isSome_some , g0, Nat.sub_zero]
          have : fewB l = true := by
            simp only [fewB, Bool.and_eq_true, decide_eq_true_eq, List.all_eq_true]
            rw [Nat.sub_zero, List.take_length] at hall
            exact ⟨by omega, fun f hf => by simpa using hall f hf⟩
          rw [this] at hk
          exact hk _ hf
        | succ j =>
          have hi : l.length - (j + 1) < l.length := by omega
          obtain ⟨f, hfi⟩ : ∃ f, l[l.length - (j + 1)]? = some f := ⟨_, List.getElem?_eq_getElem hi⟩
          obtain ⟨q, rfl, rfl, hq⟩ := hb _ f hfi
          have hq1 : hget H1 q = some ⟨false, flat l⟩ := by rw [hf.2 q (hget_lt hq) (by simp)]; exact hq
          have g0 : ((l.length - (j + 1) : Nat) : Int) < (l.length : Int) := by omega
          have g1 : (0 : Int) ≤ ((l.length - (j + 1) : Nat) : Int) ∧ ((l.length - (j + 1) : Nat) : Int) < (l.length : Int) := by omega
          have g2 : (l.length - (j + 1)) * 4 + 4 ≤ (flat l).length := by rw [flat_length]; omega
          have g3 := flat_get l _ f hfi
          have g4 : IntKind.i64.wrap (((l.length - (j + 1) : Nat) : Int) + 1) = ((l.length - j : Nat) : Int) := by rw [wrap_i64 (by omega) (by omega)]; omega
          have g5 : f.cells.toArray = #[.int .i64 f.kind, .int .i64 f.width, .int .i64 f.n, .string f.s] := rfl
          by_cases h200 : (200 : Int) < (f.s.size : Int)
          · have : fewB l = false := by
              simp only [fewB, Bool.and_eq_false_iff, List.all_eq_false]
              exact .inr ⟨f, List.mem_of_getElem? hfi, by simp; omega⟩
            rw [this] at hk
            simp only [↓RW_seq, ↓AW_ret, ↓AW_skip, ↓AW_exit, ↓AW_block, ↓RW_cond, ↓RW_reg, ↓RW_regd, ↓RO_op, ↓RO_t, ↓RO_f, ↓RO_nt, ↓RO_nf, ↓RO_u, ↓AO_nil, ↓RD_op, ↓RD_t, ↓RD_f, ↓RD_nt, ↓RD_fe, ↓RD_nte, ↓RD_nf, ↓RD_u, ↓AOD_nil, CDops_eff, CDops_no, CDops_1, CDops_2, Again_nil, Again_cons, Same1_int, Same1_bool, Same1_str, Same1_ptr, Same1_slice, Same1_nil, CSeq_ap, CReg_ap, COps_ap, Then_normal, Then_ret, Then_exit, InBlock_normal, InBlock_ret, InBlock_self, InBlock_exit, Ends_ret, Ends_normal, ares, tup, finO_some, fin_same, fin_false, argsE, dval, aop, ev, evs, evo, evp, fillL, addrOf, intOf?, lk_put, lk_none, lk_cons, lk_nil, keep_nil, keep_cons, Op1_some, Option.map_some, Option.bind_some, reduceIte, Nat.reduceEqDiff, binV_lss, binV_leq, binV_gtr, binV_geq, binV_eql, binV_neq, binV_add, binV_sub, binV_mul, un_not, CondA_false, CondA_true, Bool.not_true, Bool.not_false, reduceCtorEq, decide_true, decide_false, Nat.add_zero, Nat.zero_add, Nat.reduceAdd, Nat.reduceMul, Bool.bne_false, Bool.bne_true, eqPtr, Option.isNone_some, Option.isNone_none, List.getElem?_cons_zero, List.getElem?_cons_succ, Option.isSome_none, Option.isSome_some , hload, hstore, List.length_cons, List.length_nil, Nat.reduceAdd, Nat.reduceLeDiff, decide_true, List.all_cons, List.all_nil, one, Bool.and_true, Bool.true_and, Bool.and_self, splice, List.set_cons_zero, List.set_cons_succ, List.getElem?_cons_zero, List.getElem?_cons_succ, vc_int, vc_slice, vc_str, vc_bool, vc_int', vc_slice', vc_str', vc_bool', List.length_set, List.length_append, Nat.lt_irrefl, Nat.lt_add_one, and_self, true_and, and_true, lenV, cellsOfSlice, Nat.le_refl, if_true , g0, g1, Int.toNat_natCast, hq1, g2, g3, g5, vc_agg', size4, hget_append_self, set_last, h200]
            exact hk _ (hf.push _)
          · simp only [↓RW_seq, ↓AW_ret, ↓AW_skip, ↓AW_exit, ↓AW_block, ↓RW_cond, ↓RW_reg, ↓RW_regd, ↓RO_op, ↓RO_t, ↓RO_f, ↓RO_nt, ↓RO_nf, ↓RO_u, ↓AO_nil, ↓RD_op, ↓RD_t, ↓RD_f, ↓RD_nt, ↓RD_fe, ↓RD_nte, ↓RD_nf, ↓RD_u, ↓AOD_nil, CDops_eff, CDops_no, CDops_1, CDops_2, Again_nil, Again_cons, Same1_int, Same1_bool, Same1_str, Same1_ptr, Same1_slice, Same1_nil, CSeq_ap, CReg_ap, COps_ap, Then_normal, Then_ret, Then_exit, InBlock_normal, InBlock_ret, InBlock_self, InBlock_exit, Ends_ret, Ends_normal, ares, tup, finO_some, fin_same, fin_false, argsE, dval, aop, ev, evs, evo, evp, fillL, addrOf, intOf?, lk_put, lk_none, lk_cons, lk_nil, keep_nil, keep_cons, Op1_some, Option.map_some, Option.bind_some, reduceIte, Nat.reduceEqDiff, binV_lss, binV_leq, binV_gtr, binV_geq, binV_eql, binV_neq, binV_add, binV_sub, binV_mul, un_not, CondA_false, CondA_true, Bool.not_true, Bool.not_false, reduceCtorEq, decide_true, decide_false, Nat.add_zero, Nat.zero_add, Nat.reduceAdd, Nat.reduceMul, Bool.bne_false, Bool.bne_true, eqPtr, Option.isNone_some, Option.isNone_none, List.getElem?_cons_zero, List.getElem?_cons_succ, Option.isSome_none, Option.isSome_some , hload, hstore, List.length_cons, List.length_nil, Nat.reduceAdd, Nat.reduceLeDiff, decide_true, List.all_cons, List.all_nil, one, Bool.and_true, Bool.true_and, Bool.and_self, splice, List.set_cons_zero, List.set_cons_succ, List.getElem?_cons_zero, List.getElem?_cons_succ, vc_int, vc_slice, vc_str, vc_bool, vc_int', vc_slice', vc_str', vc_bool', List.length_set, List.length_append, Nat.lt_irrefl, Nat.lt_add_one, and_self, true_and, and_true, lenV, cellsOfSlice, Nat.le_refl, if_true , g0, g1, Int.toNat_natCast, hq1, g2, g3, g5, vc_agg', size4, hget_append_self, set_last, h200, g4]
            refine ⟨j, by omega, by omega, rfl, hf.push _, fun x hx => ?_⟩
            rw [show l.length - j = l.length - (j + 1) + 1 by omega, List.take_add_one, hfi] at hx
            rcases List.mem_append.1 hx with hx | hx
            · exact hall x hx
            · simp at hx; subst hx; omega
  rcases h with ⟨rfl, rfl⟩ | ⟨b, rfl, hb⟩
  · exact main none 0 rfl (fun i f hi => by simp at hi)
  · refine main _ _ rfl fun i f hi => ⟨b, rfl, rfl, ?_⟩
    rcases hb with rfl | hb
    · simp at hi
    · exact hb

end Go.Proofs.Ytlbhbjaimcinbaa.AI

/- The chapter's example is answered with true. -/
namespace Go.Proofs.Ytlbhbjaimcinbaa.AI
open Go

theorem awake_ac : ac tbl 200 11 [] [] = some (.bool true, []) := by kernel_rfl
theorem awake0 : AC tbl 11 [] [] = some (.bool true, []) := ac_AC tbl 200 _ _ _ _ awake_ac
theorem awake_any (H : Heap) : AC tbl 11 [] H = some (.bool true, H) := AC_iso (F := F11) rfl (by decide) rfl rfl rfl awake0 H

end Go.Proofs.Ytlbhbjaimcinbaa.AI

/- What the laws over lists of fields share. -/
set_option linter.unusedSimpArgs false
namespace Go.Proofs.Ytlbhbjaimcinbaa.AI
open Go

theorem binV_sne (s : ByteArray) : binV .neq (.string s) (.string s) = some (.bool false) := by
  simp only [binV, Op.stringOp]; simp [bne]; rfl

/-- A list's block stays below N. -/
def LB (H : Heap) (b : Option Addr) (z : Nat) (l : List Fld) (N : Nat) : Prop := ∀ (i : Nat) (f : Fld), l[i]? = some f → ∃ q, b = some ⟨q, 0, none⟩ ∧ z = 4 ∧ q < N ∧ hget H q = some ⟨false, flat l⟩
theorem LB.frame {H H' : Heap} {b : Option Addr} {z : Nat} {l : List Fld} {N : Nat} (h : LB H b z l N) {O : List Nat} (f : Frm O H H') (hO : ∀ i ∈ O, N ≤ i) : LB H' b z l N := by
  intro i x hx
  obtain ⟨q, h1, h2, h3, h4⟩ := h i x hx
  refine ⟨q, h1, h2, h3, ?_⟩
  rw [f.2 q (hget_lt h4) (fun hm => by have := hO q hm; omega)]; exact h4
theorem LA.lb {H : Heap} {v : Value} {l : List Fld} (h : LA H v l) : ∃ b z, v = .slice b l.length z ∧ LB H b z l H.length := by
  rcases h with ⟨rfl, rfl⟩ | ⟨b, rfl, hb⟩
  · exact ⟨none, 0, rfl, fun i f hi => by simp at hi⟩
  · refine ⟨_, _, rfl, fun i f hi => ⟨b, rfl, rfl, ?_⟩⟩
    rcases hb with rfl | hb
    · simp at hi
    · exact ⟨hget_lt hb, hb⟩

/-- Behind an error nothing is read. -/
theorem field_err {r : RS} (h : r.err ≠ 0) (right : Bool) (w : Int) : r.field right w = (0, r) := by simp [RS.field, h]
theorem read_err {r : RS} (h : r.err ≠ 0) (f : Fld) : (r.read f).2 = r ∧ (r.read f).1.kind = f.kind ∧ (0 ≤ f.kind → f.kind ≤ 3 → (r.read f).1.n = 0 ∧ (r.read f).1.s = ⟨#[]⟩) := by
  unfold RS.read
  split
  · simp [RS.unsigned, field_err h]
  · split
    · simp [RS.signed, field_err h, h]
    · split
      · simp [RS.flag, field_err h]
      · split
        · simp [RS.text, field_err h, h]
        · rename_i h0 h1 h2 h3
          exact ⟨rfl, rfl, fun a b => by omega⟩
theorem unsigned_ok {r : RS} (h : r.Ok) (w : Int) : (r.unsigned w).2.Ok := RS.field_ok h fun hr => by simp at hr; omega
theorem signed_ok {r : RS} (h : r.Ok) (w : Int) : (r.signed w).2.Ok := RS.field_ok h fun hr => by simp at hr; omega
theorem flag_ok {r : RS} (h : r.Ok) : r.flag.2.Ok := RS.field_ok h fun hr => by omega
theorem text_ok {r : RS} (h : r.Ok) (w : Int) : (r.text w).2.Ok := by
  have h1 := RS.field_ok h (right := lim w) (w := (wd w : Int)) (fun _ => by omega)
  unfold RS.text
  generalize r.field (lim w) (wd w) = x at *
  obtain ⟨n, r'⟩ := x
  simp only at h1 ⊢
  split
  · exact h1
  · split
    · exact ⟨h1.at_le, h1.size⟩
    · split
      · exact ⟨h1.at_le, h1.size⟩
      · rename_i h2 h3 h4
        simp only [RS.left, if_pos (Classical.not_not.1 h2)] at h4
        have := h1.at_le
        exact ⟨by simp only; omega, h1.size⟩
theorem read_ok {r : RS} (h : r.Ok) (f : Fld) : (r.read f).2.Ok := by
  unfold RS.read
  split
  · exact unsigned_ok h _
  · split
    · exact signed_ok h _
    · split
      · exact flag_ok h
      · split
        · exact text_ok h _
        · exact h

end Go.Proofs.Ytlbhbjaimcinbaa.AI

/- BitioSigned in the interpreter. -/
set_option linter.unusedSimpArgs false
namespace Go.Proofs.Ytlbhbjaimcinbaa.AI
open Go

theorem binV_seq (s : ByteArray) : binV .eql (.string s) (.string s) = some (.bool true) := by
  simp only [binV, Op.stringOp]; simp; rfl
theorem pow_cast (k : Nat) : (2 : Int) ^ k = ((2 ^ k : Nat) : Int) := by push_cast; rfl
theorem pow_dvd_pow_int {k j : Nat} (h : k ≤ j) : (2 : Int) ^ k ∣ 2 ^ j := ⟨2 ^ (j - k), by rw [← Int.pow_add]; congr 1; omega⟩
theorem u64_mod (n : Int) {k : Nat} (hk : k ≤ 64) : (((u64 n % 2 ^ k : Nat)) : Int) = n % 2 ^ k := by
  unfold u64
  have h0 : (0 : Int) ≤ n % 18446744073709551616 := by omega
  rw [Int.natCast_emod, Int.toNat_of_nonneg h0, ← pow_cast]
  exact Int.emod_emod_of_dvd n (by rw [show (18446744073709551616 : Int) = 2 ^ 64 by decide]; exact pow_dvd_pow_int hk)

/-- A number and its rest. -/
theorem signed_back {n : Int} {m : Nat} (h1 : -2 ^ m ≤ n) (h2 : n < 2 ^ m) : (if (2 : Int) ^ m ≤ n % 2 ^ (m + 1) then n % 2 ^ (m + 1) - 2 ^ (m + 1) else n % 2 ^ (m + 1)) = n := by
  have hp : (2 : Int) ^ (m + 1) = 2 * 2 ^ m := by rw [Int.pow_succ]; omega
  have hq := pow_pos' m
  rw [hp]
  generalize (2 : Int) ^ m = q at *
  by_cases h : 0 ≤ n
  · have : n % (2 * q) = n := Int.emod_eq_of_lt h (by omega)
    rw [this, if_neg (by omega)]
  · have : n % (2 * q) = n + 2 * q := by
      have h3 : (n + 2 * q) % (2 * q) = n % (2 * q) := by simp
      rw [← h3]; exact Int.emod_eq_of_lt (by omega) (by omega)
    rw [this, if_pos (by omega)]; omega

theorem read_back {n : Int} {m : Nat} {s : ByteArray} (hm : 1 ≤ m ∧ m ≤ 61) (h1 : -2 ^ m ≤ n) (h2 : n < 2 ^ m) (hs : IsStr (bitsOf (m + 1) (u64 n)) s) : newR s = ⟨s, 0, 0⟩ ∧ ((⟨s, 0, 0⟩ : RS).signed ((m + 1 : Nat) : Int)).1 = n := by
  have hsz : s.size = (m + 1 + 7) / 8 := by
    obtain ⟨d, _, hd, rfl⟩ := hs
    rw [strOf_size, hd, bitsOf_length]
  have hnr : newR s = ⟨s, 0, 0⟩ := by unfold newR; rw [if_neg (by omega)]
  refine ⟨hnr, ?_⟩
  have hv : valOf s 0 (m + 1) = u64 n % 2 ^ (m + 1) := valOf_read hs (by omega) (fun i hi => by
    rw [Nat.zero_add, List.getD_eq_getElem?_getD, bitsOf_get _ _ _ hi]; rfl)
  have hf : (⟨s, 0, 0⟩ : RS).field true ((m + 1 : Nat) : Int) = (u64 n % 2 ^ (m + 1), ⟨s, m + 1, 0⟩) := by
    unfold RS.field
    rw [if_neg (by simp), if_neg (by simp), if_neg (by simp [RS.left]; omega)]
    simp only [Int.toNat_natCast, hv, Nat.zero_add]
  have hd : decide ((2 : Int) ≤ ((m + 1 : Nat) : Int) ∧ ((m + 1 : Nat) : Int) ≤ 63) = true := by simp; omega
  have hmod := u64_mod n (k := m + 1) (by omega)
  have hb := signed_back h1 h2
  simp only [RS.signed, hd, hf, Int.toNat_natCast, Nat.add_sub_cancel, true_and]
  rw [← hmod] at hb
  have hc : (2 : Int) ^ m ≤ ((u64 n % 2 ^ (m + 1) : Nat) : Int) ↔ 2 ^ m ≤ u64 n % 2 ^ (m + 1) := by rw [pow_cast]; omega
  by_cases h : 2 ^ m ≤ u64 n % 2 ^ (m + 1)
  · rw [if_pos (hc.2 h)] at hb; rw [if_pos h]; exact hb
  · rw [if_neg (fun hh => h (hc.1 hh))] at hb; rw [if_neg h]; exact hb

theorem signed (H : Heap) (a n : Int) (ha : 0 ≤ a ∧ a < 256) (hn : Is64 n) : Op1 (AC tbl 6 [.int .u8 a, .int .i64 n] H) fun v _ => v = .bool true := by
  apply AC_wp (F := F6) rfl (by simp [F6]) (.inl rfl)
  obtain ⟨b, rfl⟩ : ∃ b : Nat, a = b := ⟨a.toNat, by omega⟩
  have w1 : IntKind.i64.wrap (b : Int) = (b : Int) := wrap_i64 (by omega) (by omega)
  have w2 : binV .rem (.int .i64 (b : Int)) (.int .i64 61) = some (.int .i64 ((b % 61 : Nat) : Int)) := by rw [binV_rem _ _ _ (by omega)]; rfl
  obtain ⟨m, hm⟩ : ∃ m : Nat, m = b % 61 + 1 := ⟨_, rfl⟩
  have w3 : IntKind.i64.wrap (2 + ((b % 61 : Nat) : Int)) = ((m + 1 : Nat) : Int) := by rw [wrap_i64 (by omega) (by omega)]; omega
  have w4 : IntKind.i64.wrap (((m + 1 : Nat) : Int) - 1) = (m : Int) := by rw [wrap_i64 (by omega) (by omega)]; omega
  have hm1 : 1 ≤ m ∧ m ≤ 61 := by omega
  have q1 := pow_small (k := m) (by omega)
  have q2 := pow_small (k := m + 1) (by omega)
  have q3 := pow_pos' m
  have hp2 : (2 : Int) ^ (m + 1) = 2 * 2 ^ m := by rw [Int.pow_succ]; omega
  have s1 := shl_int 1 m (.inl rfl) (by omega)
  have s2 := shl_int 1 (m + 1) (.inl rfl) (by omega)
  rw [Int.one_mul] at s1 s2
  have w5 : IntKind.i64.wrap (0 - 2 ^ m) = -2 ^ m := by rw [wrap_i64 (by omega) (by omega)]; omega
  have g1 : WSt (H ++ [some ⟨true, [.slice none 0 0, .int .i64 0, .int .i64 0]⟩] ++ [some ⟨true, [.slice none 0 0, .int .i64 0, .int .i64 0]⟩]) H.length none [] 0 := (newWriter_st H).frame (O := []) ((Frm.refl _ _).push _) (by simp) (by simp)
  have g2 : WSt (H ++ [some ⟨true, [.slice none 0 0, .int .i64 0, .int .i64 0]⟩] ++ [some ⟨true, [.slice none 0 0, .int .i64 0, .int .i64 0]⟩]) (H.length + 1) none [] 0 := by
    have := newWriter_st (H ++ [some ⟨true, [.slice none 0 0, .int .i64 0, .int .i64 0]⟩])
    simpa using this
  have fw : (2 : Int) ≤ ((m + 1 : Nat) : Int) ∧ ((m + 1 : Nat) : Int) ≤ 63 := by omega
  have ft : (((m + 1 : Nat) : Int)).toNat = m + 1 := by omega
  simp only [F6, ↓RW_seq, ↓AW_ret, ↓AW_skip, ↓AW_exit, ↓AW_block, ↓RW_cond, ↓RW_reg, ↓RW_regd, ↓RO_op, ↓RO_t, ↓RO_f, ↓RO_nt, ↓RO_nf, ↓RO_u, ↓AO_nil, ↓RD_op, ↓RD_t, ↓RD_f, ↓RD_nt, ↓RD_fe, ↓RD_nte, ↓RD_nf, ↓RD_u, ↓AOD_nil, CDops_eff, CDops_no, CDops_1, CDops_2, Again_nil, Again_cons, Same1_int, Same1_bool, Same1_str, Same1_ptr, Same1_slice, Same1_nil, CSeq_ap, CReg_ap, COps_ap, Then_normal, Then_ret, Then_exit, InBlock_normal, InBlock_ret, InBlock_self, InBlock_exit, Ends_ret, Ends_normal, ares, tup, finO_some, fin_same, fin_false, argsE, dval, aop, ev, evs, evo, evp, fillL, addrOf, intOf?, lk_put, lk_none, lk_cons, lk_nil, keep_nil, keep_cons, Op1_some, Option.map_some, Option.bind_some, reduceIte, Nat.reduceEqDiff, binV_lss, binV_leq, binV_gtr, binV_geq, binV_eql, binV_neq, binV_add, binV_sub, binV_mul, un_not, CondA_false, CondA_true, Bool.not_true, Bool.not_false, reduceCtorEq, decide_true, decide_false, Nat.add_zero, Nat.zero_add, Nat.reduceAdd, Nat.reduceMul, Bool.bne_false, Bool.bne_true, eqPtr, Option.isNone_some, Option.isNone_none, List.getElem?_cons_zero, List.getElem?_cons_succ, Option.isSome_none, Option.isSome_some , hload, hstore, List.length_cons, List.length_nil, Nat.reduceAdd, Nat.reduceLeDiff, decide_true, List.all_cons, List.all_nil, one, Bool.and_true, Bool.true_and, Bool.and_self, splice, List.set_cons_zero, List.set_cons_succ, List.getElem?_cons_zero, List.getElem?_cons_succ, vc_int, vc_slice, vc_str, vc_bool, vc_int', vc_slice', vc_str', vc_bool', List.length_set, List.length_append, Nat.lt_irrefl, Nat.lt_add_one, and_self, true_and, and_true, lenV, cellsOfSlice, Nat.le_refl, if_true , awake_any, w1, w2, w3, newWriter_eq]
  refine signed_spec (s := ⟨[], 0⟩) g1 (by simp) fun H1 o1 k1 k2 k3 => ?_
  have g3 := g2.frame k2 (by simp) (by simp)
  by_cases hr : -2 ^ m ≤ n ∧ n < 2 ^ m
  · obtain ⟨r1, r2⟩ := hr
    have e1 : WS.signed ⟨[], 0⟩ ((m + 1 : Nat) : Int) n = ⟨bitsOf (m + 1) (u64 n), 0⟩ := by
      have f3 : ¬ (524288 : Int) < ((([] : List Bool).length : Nat) : Int) + ((m + 1 : Nat) : Int) := by simp; omega
      simp only [WS.signed, WS.field, ft, Nat.add_sub_cancel, fw, r1, r2, and_self, decide_true, ne_eq, not_true_eq_false, if_false, Bool.true_eq_false, f3, List.nil_append]
    rw [e1] at k1
    obtain ⟨s3, is3, b3⟩ := bytes_spec k1
    simp only [if_true] at b3 is3
    obtain ⟨hnr, hback⟩ := read_back hm1 r1 r2 is3
    have nlt : ¬ n < -2 ^ m := by omega
    have nge : ¬ 2 ^ m ≤ n := by omega
    have tail : ∀ u : Int, 0 ≤ u → u < 2 ^ (m + 1) → u % 2 ^ (m + 1) = n % 2 ^ (m + 1) → WS.unsigned ⟨[], 0⟩ ((m + 1 : Nat) : Int) u = ⟨bitsOf (m + 1) (u64 n), 0⟩ := by
      intro u u0 u1 u2
      have f2 : (1 : Int) ≤ ((m + 1 : Nat) : Int) ∧ ((m + 1 : Nat) : Int) ≤ 63 := by omega
      have f3 : ¬ (524288 : Int) < ((([] : List Bool).length : Nat) : Int) + ((m + 1 : Nat) : Int) := by simp; omega
      have hbm : bitsOf (m + 1) (u64 u) = bitsOf (m + 1) (u64 n) := by
        apply bitsOf_mod
        have a1 := u64_mod u (k := m + 1) (by omega)
        have a2 := u64_mod n (k := m + 1) (by omega)
        rw [u2, ← a2] at a1
        exact Int.ofNat.inj a1
      simp only [WS.unsigned, WS.field, ne_eq, not_true_eq_false, if_false, f2, and_self, decide_true, true_and, u0, ft, u1, f3, List.nil_append, Bool.true_eq_false, hbm]
    have hend : ∀ (H2 : Heap), AC tbl 27 [.pointer (some ⟨H2.length, 0, none⟩), .int .i64 ((m + 1 : Nat) : Int)] (H2 ++ [some ⟨true, (⟨s3, 0, 0⟩ : RS).cells⟩]) = some (.int .i64 n, setR (H2 ++ [some ⟨true, (⟨s3, 0, 0⟩ : RS).cells⟩]) H2.length ((⟨s3, 0, 0⟩ : RS).signed ((m + 1 : Nat) : Int)).2) := by
      intro H2
      have ho : (⟨s3, 0, 0⟩ : RS).Ok := hnr ▸ newR_ok s3
      have := rsigned_spec (H := H2 ++ [some ⟨true, (⟨s3, 0, 0⟩ : RS).cells⟩]) (p := H2.length) (r := ⟨s3, 0, 0⟩) (w := ((m + 1 : Nat) : Int)) (show hget _ _ = _ from hget_append_self) ho
      rw [hback] at this; exact this
    by_cases h0 : n < 0
    · have w6 : IntKind.i64.wrap (n + 2 ^ (m + 1)) = n + 2 ^ (m + 1) := wrap_i64 (by omega) (by omega)
      simp only [↓RW_seq, ↓AW_ret, ↓AW_skip, ↓AW_exit, ↓AW_block, ↓RW_cond, ↓RW_reg, ↓RW_regd, ↓RO_op, ↓RO_t, ↓RO_f, ↓RO_nt, ↓RO_nf, ↓RO_u, ↓AO_nil, ↓RD_op, ↓RD_t, ↓RD_f, ↓RD_nt, ↓RD_fe, ↓RD_nte, ↓RD_nf, ↓RD_u, ↓AOD_nil, CDops_eff, CDops_no, CDops_1, CDops_2, Again_nil, Again_cons, Same1_int, Same1_bool, Same1_str, Same1_ptr, Same1_slice, Same1_nil, CSeq_ap, CReg_ap, COps_ap, Then_normal, Then_ret, Then_exit, InBlock_normal, InBlock_ret, InBlock_self, InBlock_exit, Ends_ret, Ends_normal, ares, tup, finO_some, fin_same, fin_false, argsE, dval, aop, ev, evs, evo, evp, fillL, addrOf, intOf?, lk_put, lk_none, lk_cons, lk_nil, keep_nil, keep_cons, Op1_some, Option.map_some, Option.bind_some, reduceIte, Nat.reduceEqDiff, binV_lss, binV_leq, binV_gtr, binV_geq, binV_eql, binV_neq, binV_add, binV_sub, binV_mul, un_not, CondA_false, CondA_true, Bool.not_true, Bool.not_false, reduceCtorEq, decide_true, decide_false, Nat.add_zero, Nat.zero_add, Nat.reduceAdd, Nat.reduceMul, Bool.bne_false, Bool.bne_true, eqPtr, Option.isNone_some, Option.isNone_none, List.getElem?_cons_zero, List.getElem?_cons_succ, Option.isSome_none, Option.isSome_some , hload, hstore, List.length_cons, List.length_nil, Nat.reduceAdd, Nat.reduceLeDiff, decide_true, List.all_cons, List.all_nil, one, Bool.and_true, Bool.true_and, Bool.and_self, splice, List.set_cons_zero, List.set_cons_succ, List.getElem?_cons_zero, List.getElem?_cons_succ, vc_int, vc_slice, vc_str, vc_bool, vc_int', vc_slice', vc_str', vc_bool', List.length_set, List.length_append, Nat.lt_irrefl, Nat.lt_add_one, and_self, true_and, and_true, lenV, cellsOfSlice, Nat.le_refl, if_true , b3, w4, s1, un_neg, w5, nlt, nge, h0, s2, w6]
      refine unsigned_spec (s := ⟨[], 0⟩) g3 (by simp) ⟨by omega, by omega⟩ fun H2 o2 m1 m2 m3 => ?_
      rw [tail _ (by omega) (by omega) (by simp)] at m1
      obtain ⟨s4, is4, b4⟩ := bytes_spec m1
      simp only [if_true] at b4 is4
      obtain rfl := is3.same is4
      simp only [↓RW_seq, ↓AW_ret, ↓AW_skip, ↓AW_exit, ↓AW_block, ↓RW_cond, ↓RW_reg, ↓RW_regd, ↓RO_op, ↓RO_t, ↓RO_f, ↓RO_nt, ↓RO_nf, ↓RO_u, ↓AO_nil, ↓RD_op, ↓RD_t, ↓RD_f, ↓RD_nt, ↓RD_fe, ↓RD_nte, ↓RD_nf, ↓RD_u, ↓AOD_nil, CDops_eff, CDops_no, CDops_1, CDops_2, Again_nil, Again_cons, Same1_int, Same1_bool, Same1_str, Same1_ptr, Same1_slice, Same1_nil, CSeq_ap, CReg_ap, COps_ap, Then_normal, Then_ret, Then_exit, InBlock_normal, InBlock_ret, InBlock_self, InBlock_exit, Ends_ret, Ends_normal, ares, tup, finO_some, fin_same, fin_false, argsE, dval, aop, ev, evs, evo, evp, fillL, addrOf, intOf?, lk_put, lk_none, lk_cons, lk_nil, keep_nil, keep_cons, Op1_some, Option.map_some, Option.bind_some, reduceIte, Nat.reduceEqDiff, binV_lss, binV_leq, binV_gtr, binV_geq, binV_eql, binV_neq, binV_add, binV_sub, binV_mul, un_not, CondA_false, CondA_true, Bool.not_true, Bool.not_false, reduceCtorEq, decide_true, decide_false, Nat.add_zero, Nat.zero_add, Nat.reduceAdd, Nat.reduceMul, Bool.bne_false, Bool.bne_true, eqPtr, Option.isNone_some, Option.isNone_none, List.getElem?_cons_zero, List.getElem?_cons_succ, Option.isSome_none, Option.isSome_some , hload, hstore, List.length_cons, List.length_nil, Nat.reduceAdd, Nat.reduceLeDiff, decide_true, List.all_cons, List.all_nil, one, Bool.and_true, Bool.true_and, Bool.and_self, splice, List.set_cons_zero, List.set_cons_succ, List.getElem?_cons_zero, List.getElem?_cons_succ, vc_int, vc_slice, vc_str, vc_bool, vc_int', vc_slice', vc_str', vc_bool', List.length_set, List.length_append, Nat.lt_irrefl, Nat.lt_add_one, and_self, true_and, and_true, lenV, cellsOfSlice, Nat.le_refl, if_true , b4, newReader_eq, hnr, hend, binV_seq, eq_self]
    · simp only [↓RW_seq, ↓AW_ret, ↓AW_skip, ↓AW_exit, ↓AW_block, ↓RW_cond, ↓RW_reg, ↓RW_regd, ↓RO_op, ↓RO_t, ↓RO_f, ↓RO_nt, ↓RO_nf, ↓RO_u, ↓AO_nil, ↓RD_op, ↓RD_t, ↓RD_f, ↓RD_nt, ↓RD_fe, ↓RD_nte, ↓RD_nf, ↓RD_u, ↓AOD_nil, CDops_eff, CDops_no, CDops_1, CDops_2, Again_nil, Again_cons, Same1_int, Same1_bool, Same1_str, Same1_ptr, Same1_slice, Same1_nil, CSeq_ap, CReg_ap, COps_ap, Then_normal, Then_ret, Then_exit, InBlock_normal, InBlock_ret, InBlock_self, InBlock_exit, Ends_ret, Ends_normal, ares, tup, finO_some, fin_same, fin_false, argsE, dval, aop, ev, evs, evo, evp, fillL, addrOf, intOf?, lk_put, lk_none, lk_cons, lk_nil, keep_nil, keep_cons, Op1_some, Option.map_some, Option.bind_some, reduceIte, Nat.reduceEqDiff, binV_lss, binV_leq, binV_gtr, binV_geq, binV_eql, binV_neq, binV_add, binV_sub, binV_mul, un_not, CondA_false, CondA_true, Bool.not_true, Bool.not_false, reduceCtorEq, decide_true, decide_false, Nat.add_zero, Nat.zero_add, Nat.reduceAdd, Nat.reduceMul, Bool.bne_false, Bool.bne_true, eqPtr, Option.isNone_some, Option.isNone_none, List.getElem?_cons_zero, List.getElem?_cons_succ, Option.isSome_none, Option.isSome_some , hload, hstore, List.length_cons, List.length_nil, Nat.reduceAdd, Nat.reduceLeDiff, decide_true, List.all_cons, List.all_nil, one, Bool.and_true, Bool.true_and, Bool.and_self, splice, List.set_cons_zero, List.set_cons_succ, List.getElem?_cons_zero, List.getElem?_cons_succ, vc_int, vc_slice, vc_str, vc_bool, vc_int', vc_slice', vc_str', vc_bool', List.length_set, List.length_append, Nat.lt_irrefl, Nat.lt_add_one, and_self, true_and, and_true, lenV, cellsOfSlice, Nat.le_refl, if_true , b3, w4, s1, un_neg, w5, nlt, nge, h0]
      refine unsigned_spec (s := ⟨[], 0⟩) g3 (by simp) hn fun H2 o2 m1 m2 m3 => ?_
      rw [tail _ (by omega) (by omega) rfl] at m1
      obtain ⟨s4, is4, b4⟩ := bytes_spec m1
      simp only [if_true] at b4 is4
      obtain rfl := is3.same is4
      simp only [↓RW_seq, ↓AW_ret, ↓AW_skip, ↓AW_exit, ↓AW_block, ↓RW_cond, ↓RW_reg, ↓RW_regd, ↓RO_op, ↓RO_t, ↓RO_f, ↓RO_nt, ↓RO_nf, ↓RO_u, ↓AO_nil, ↓RD_op, ↓RD_t, ↓RD_f, ↓RD_nt, ↓RD_fe, ↓RD_nte, ↓RD_nf, ↓RD_u, ↓AOD_nil, CDops_eff, CDops_no, CDops_1, CDops_2, Again_nil, Again_cons, Same1_int, Same1_bool, Same1_str, Same1_ptr, Same1_slice, Same1_nil, CSeq_ap, CReg_ap, COps_ap, Then_normal, Then_ret, Then_exit, InBlock_normal, InBlock_ret, InBlock_self, InBlock_exit, Ends_ret, Ends_normal, ares, tup, finO_some, fin_same, fin_false, argsE, dval, aop, ev, evs, evo, evp, fillL, addrOf, intOf?, lk_put, lk_none, lk_cons, lk_nil, keep_nil, keep_cons, Op1_some, Option.map_some, Option.bind_some, reduceIte, Nat.reduceEqDiff, binV_lss, binV_leq, binV_gtr, binV_geq, binV_eql, binV_neq, binV_add, binV_sub, binV_mul, un_not, CondA_false, CondA_true, Bool.not_true, Bool.not_false, reduceCtorEq, decide_true, decide_false, Nat.add_zero, Nat.zero_add, Nat.reduceAdd, Nat.reduceMul, Bool.bne_false, Bool.bne_true, eqPtr, Option.isNone_some, Option.isNone_none, List.getElem?_cons_zero, List.getElem?_cons_succ, Option.isSome_none, Option.isSome_some , hload, hstore, List.length_cons, List.length_nil, Nat.reduceAdd, Nat.reduceLeDiff, decide_true, List.all_cons, List.all_nil, one, Bool.and_true, Bool.true_and, Bool.and_self, splice, List.set_cons_zero, List.set_cons_succ, List.getElem?_cons_zero, List.getElem?_cons_succ, vc_int, vc_slice, vc_str, vc_bool, vc_int', vc_slice', vc_str', vc_bool', List.length_set, List.length_append, Nat.lt_irrefl, Nat.lt_add_one, and_self, true_and, and_true, lenV, cellsOfSlice, Nat.le_refl, if_true , b4, newReader_eq, hnr, hend, binV_seq, eq_self]
  · have e1 : WS.signed ⟨[], 0⟩ ((m + 1 : Nat) : Int) n = ⟨[], 2⟩ := by
      simp only [WS.signed, WS.field, ft, Nat.add_sub_cancel, fw, hr, and_self, and_false, decide_true, decide_false, ne_eq, not_true_eq_false, if_false, Bool.true_eq_false, if_true]
    rw [e1] at k1
    obtain ⟨s3, is3, b3⟩ := bytes_spec k1
    have n2 : ¬ (2 : Int) = 0 := by decide
    simp only [n2, if_false] at b3
    by_cases hr1 : n < -2 ^ m
    · simp only [↓RW_seq, ↓AW_ret, ↓AW_skip, ↓AW_exit, ↓AW_block, ↓RW_cond, ↓RW_reg, ↓RW_regd, ↓RO_op, ↓RO_t, ↓RO_f, ↓RO_nt, ↓RO_nf, ↓RO_u, ↓AO_nil, ↓RD_op, ↓RD_t, ↓RD_f, ↓RD_nt, ↓RD_fe, ↓RD_nte, ↓RD_nf, ↓RD_u, ↓AOD_nil, CDops_eff, CDops_no, CDops_1, CDops_2, Again_nil, Again_cons, Same1_int, Same1_bool, Same1_str, Same1_ptr, Same1_slice, Same1_nil, CSeq_ap, CReg_ap, COps_ap, Then_normal, Then_ret, Then_exit, InBlock_normal, InBlock_ret, InBlock_self, InBlock_exit, Ends_ret, Ends_normal, ares, tup, finO_some, fin_same, fin_false, argsE, dval, aop, ev, evs, evo, evp, fillL, addrOf, intOf?, lk_put, lk_none, lk_cons, lk_nil, keep_nil, keep_cons, Op1_some, Option.map_some, Option.bind_some, reduceIte, Nat.reduceEqDiff, binV_lss, binV_leq, binV_gtr, binV_geq, binV_eql, binV_neq, binV_add, binV_sub, binV_mul, un_not, CondA_false, CondA_true, Bool.not_true, Bool.not_false, reduceCtorEq, decide_true, decide_false, Nat.add_zero, Nat.zero_add, Nat.reduceAdd, Nat.reduceMul, Bool.bne_false, Bool.bne_true, eqPtr, Option.isNone_some, Option.isNone_none, List.getElem?_cons_zero, List.getElem?_cons_succ, Option.isSome_none, Option.isSome_some , hload, hstore, List.length_cons, List.length_nil, Nat.reduceAdd, Nat.reduceLeDiff, decide_true, List.all_cons, List.all_nil, one, Bool.and_true, Bool.true_and, Bool.and_self, splice, List.set_cons_zero, List.set_cons_succ, List.getElem?_cons_zero, List.getElem?_cons_succ, vc_int, vc_slice, vc_str, vc_bool, vc_int', vc_slice', vc_str', vc_bool', List.length_set, List.length_append, Nat.lt_irrefl, Nat.lt_add_one, and_self, true_and, and_true, lenV, cellsOfSlice, Nat.le_refl, if_true , b3, w4, s1, un_neg, w5, hr1, binV_seq, eq_self]
    · have hr2 : 2 ^ m ≤ n := by omega
      simp only [↓RW_seq, ↓AW_ret, ↓AW_skip, ↓AW_exit, ↓AW_block, ↓RW_cond, ↓RW_reg, ↓RW_regd, ↓RO_op, ↓RO_t, ↓RO_f, ↓RO_nt, ↓RO_nf, ↓RO_u, ↓AO_nil, ↓RD_op, ↓RD_t, ↓RD_f, ↓RD_nt, ↓RD_fe, ↓RD_nte, ↓RD_nf, ↓RD_u, ↓AOD_nil, CDops_eff, CDops_no, CDops_1, CDops_2, Again_nil, Again_cons, Same1_int, Same1_bool, Same1_str, Same1_ptr, Same1_slice, Same1_nil, CSeq_ap, CReg_ap, COps_ap, Then_normal, Then_ret, Then_exit, InBlock_normal, InBlock_ret, InBlock_self, InBlock_exit, Ends_ret, Ends_normal, ares, tup, finO_some, fin_same, fin_false, argsE, dval, aop, ev, evs, evo, evp, fillL, addrOf, intOf?, lk_put, lk_none, lk_cons, lk_nil, keep_nil, keep_cons, Op1_some, Option.map_some, Option.bind_some, reduceIte, Nat.reduceEqDiff, binV_lss, binV_leq, binV_gtr, binV_geq, binV_eql, binV_neq, binV_add, binV_sub, binV_mul, un_not, CondA_false, CondA_true, Bool.not_true, Bool.not_false, reduceCtorEq, decide_true, decide_false, Nat.add_zero, Nat.zero_add, Nat.reduceAdd, Nat.reduceMul, Bool.bne_false, Bool.bne_true, eqPtr, Option.isNone_some, Option.isNone_none, List.getElem?_cons_zero, List.getElem?_cons_succ, Option.isSome_none, Option.isSome_some , hload, hstore, List.length_cons, List.length_nil, Nat.reduceAdd, Nat.reduceLeDiff, decide_true, List.all_cons, List.all_nil, one, Bool.and_true, Bool.true_and, Bool.and_self, splice, List.set_cons_zero, List.set_cons_succ, List.getElem?_cons_zero, List.getElem?_cons_succ, vc_int, vc_slice, vc_str, vc_bool, vc_int', vc_slice', vc_str', vc_bool', List.length_set, List.length_append, Nat.lt_irrefl, Nat.lt_add_one, and_self, true_and, and_true, lenV, cellsOfSlice, Nat.le_refl, if_true , b3, w4, s1, un_neg, w5, hr1, hr2, binV_seq, eq_self]

end Go.Proofs.Ytlbhbjaimcinbaa.AI

/- Fields as bits: what is written, what is read. -/
set_option linter.unusedSimpArgs false
namespace Go.Proofs.Ytlbhbjaimcinbaa.AI
open Go

/-- Some of a string's bits. -/
def seg (s : ByteArray) (a n : Nat) : List Bool := (List.range n).map fun i => sbit s (a + i)
theorem seg_length (s : ByteArray) (a n : Nat) : (seg s a n).length = n := by simp [seg]
theorem seg_get {s : ByteArray} {a n i : Nat} (h : i < n) : (seg s a n)[i]? = some (sbit s (a + i)) := by simp [seg, h]
theorem seg_append (s : ByteArray) (a n m : Nat) : seg s a (n + m) = seg s a n ++ seg s (a + n) m := by
  unfold seg
  rw [List.range_add, List.map_append, List.map_map]
  congr 1
  apply List.map_congr_left
  intro i _
  simp [Nat.add_assoc]
theorem seg_zero (s : ByteArray) (a : Nat) : seg s a 0 = [] := rfl

theorem valOf_testBit (s : ByteArray) (a : Nat) : ∀ (w i : Nat), i < w → (valOf s a w).testBit (w - 1 - i) = sbit s (a + i) := by
  intro w
  induction w with
  | zero => intro i h; omega
  | succ w ih =>
    intro i h
    have hb : (sbit s (a + w)).toNat < 2 := by cases sbit s (a + w) <;> simp
    by_cases hi : i = w
    · subst hi
      rw [show i + 1 - 1 - i = 0 by omega, valOf, Nat.testBit_zero]
      cases sbit s (a + i) <;> simp <;> omega
    · rw [show w + 1 - 1 - i = (w - 1 - i) + 1 by omega, valOf, Nat.testBit_succ, ← ih i (by omega)]
      congr 1; omega
theorem bits_val (s : ByteArray) (a w : Nat) : bitsOf w (valOf s a w) = seg s a w := by
  apply List.ext_getElem?
  intro i
  by_cases hi : i < w
  · rw [bitsOf_get _ _ _ hi, seg_get hi, valOf_testBit s a w i hi]
  · rw [List.getElem?_eq_none (by rw [bitsOf_length]; omega), List.getElem?_eq_none (by rw [seg_length]; omega)]
theorem val_seg {s : ByteArray} {a w n : Nat} (h : seg s a w = bitsOf w n) : valOf s a w = n % 2 ^ w := by
  have := valOf_bits (s := s) (a := a) (w := w) (n := n) (fun i hi => by
    have h1 := seg_get (s := s) (a := a) hi
    rw [h, bitsOf_get _ _ _ hi] at h1
    exact (Option.some.inj h1).symm) w (Nat.le_refl _)
  simpa using this

/-- A text's bytes as numbers. -/
def nums (t : ByteArray) : List Nat := t.data.toList.map UInt8.toNat
theorem strOf_nums (t : ByteArray) : strOf (nums t) = t := by
  have h : (nums t).map UInt8.ofNat = t.data.toList := by
    unfold nums; rw [List.map_map]
    conv => rhs; rw [← List.map_id t.data.toList]
    apply List.map_congr_left
    intro b _; simp
  unfold strOf; rw [h]
theorem nums_strOf {d : List Nat} (h : ∀ x ∈ d, x < 256) : nums (strOf d) = d := by
  unfold nums strOf
  simp only [List.map_map]
  conv => rhs; rw [← List.map_id d]
  apply List.map_congr_left
  intro x hx
  have := h x hx
  simp; omega
theorem textBits_nums (t : ByteArray) : textBits t = ((nums t).map fun x => bitsOf 8 x).flatten := by
  unfold textBits nums; rw [List.map_map]; rfl
theorem nums_length (t : ByteArray) : (nums t).length = t.size := by unfold nums; rw [List.length_map, size_list]
theorem flat8_seg (s : ByteArray) (a : Nat) : ∀ n, ((readL s a n).map fun x => bitsOf 8 x).flatten = seg s a (8 * n) := by
  intro n
  induction n with
  | zero => rfl
  | succ n ih =>
    rw [readL_succ, List.map_append, List.flatten_append, ih, show 8 * (n + 1) = 8 * n + 8 by omega, seg_append]
    simp [bits_val]
theorem textBits_read (s : ByteArray) (a n : Nat) : textBits (strOf (readL s a n)) = seg s a (8 * n) := by
  rw [textBits_nums, nums_strOf (readL_small s a n), flat8_seg]
theorem textBits_length (t : ByteArray) : (textBits t).length = 8 * t.size := by
  rw [← textPre_all, textPre_length _ _ (Nat.le_refl _)]
theorem flat8_inj : ∀ {x y : List Nat}, (∀ v ∈ x, v < 256) → (∀ v ∈ y, v < 256) → x.length = y.length → (x.map fun v => bitsOf 8 v).flatten = (y.map fun v => bitsOf 8 v).flatten → x = y := by
  intro x
  induction x with
  | nil => intro y _ _ hl _; exact (List.eq_nil_of_length_eq_zero hl.symm).symm
  | cons a x ih =>
    intro y hx hy hl h
    cases y with
    | nil => simp at hl
    | cons b y =>
      simp only [List.map_cons, List.flatten_cons] at h
      have h1 := List.append_inj h (by rw [bitsOf_length, bitsOf_length])
      have h2 := ih (fun v hv => hx v (List.mem_cons_of_mem _ hv)) (fun v hv => hy v (List.mem_cons_of_mem _ hv)) (by simpa using hl) h1.2
      have ha := hx a List.mem_cons_self
      have hb := hy b List.mem_cons_self
      have : a = b := by
        apply Nat.eq_of_testBit_eq
        intro i
        by_cases hi : i < 8
        · have e1 := bitsOf_get 8 a (7 - i) (by omega)
          have e2 := bitsOf_get 8 b (7 - i) (by omega)
          rw [h1.1, e2] at e1
          have := Option.some.inj e1
          rw [show 8 - 1 - (7 - i) = i by omega] at this
          exact this.symm
        · rw [Nat.testBit_lt_two_pow (Nat.lt_of_lt_of_le ha (by calc 256 = 2 ^ 8 := by decide
                _ ≤ 2 ^ i := Nat.pow_le_pow_right (by omega) (by omega))), Nat.testBit_lt_two_pow (Nat.lt_of_lt_of_le hb (by calc 256 = 2 ^ 8 := by decide
                _ ≤ 2 ^ i := Nat.pow_le_pow_right (by omega) (by omega)))]
      rw [this, h2]
theorem nums_small (t : ByteArray) : ∀ x ∈ nums t, x < 256 := by
  intro x hx
  simp only [nums, List.mem_map] at hx
  obtain ⟨b, _, rfl⟩ := hx
  exact b.toNat_lt
theorem read_text {s t : ByteArray} {a : Nat} (h : seg s a (8 * t.size) = textBits t) : strOf (readL s a t.size) = t := by
  have : readL s a t.size = nums t := by
    apply flat8_inj (readL_small _ _ _) (nums_small t) (by rw [readL_length, nums_length])
    rw [flat8_seg, h, textBits_nums]
  rw [this, strOf_nums]

end Go.Proofs.Ytlbhbjaimcinbaa.AI

/- The reference writer's memory, and a field's bits laid into it. -/
set_option linter.unusedSimpArgs false
namespace Go.Proofs.Ytlbhbjaimcinbaa.AI
open Go

/-- Bits, a byte each. -/
def bn (bs : List Bool) : List Nat := bs.map Bool.toNat
theorem bn_length (bs : List Bool) : (bn bs).length = bs.length := by simp [bn]
theorem bn_append (a b : List Bool) : bn a ++ bn b = bn (a ++ b) := by simp [bn]

structure VSt (H : Heap) (p : Nat) (o : Option Nat) (bs : List Bool) (err : Int) : Prop where
  blk : hget H p = some ⟨true, [sliceOf o (bn bs), .int .i64 err]⟩
  nil : o = none → bs = []
  dat : ∀ q, o = some q → q ≠ p ∧ hget H q = some ⟨true, u8s (bn bs)⟩
theorem VSt.frame {H H' : Heap} {p : Nat} {o : Option Nat} {bs : List Bool} {err : Int} (h : VSt H p o bs err) {O : List Nat} (f : Frm O H H') (hp : p ∉ O) (ho : ∀ q, o = some q → q ∉ O) : VSt H' p o bs err := by
  refine ⟨?_, h.nil, fun q hq => ⟨(h.dat q hq).1, ?_⟩⟩
  · rw [f.2 p (hget_lt h.blk) hp]; exact h.blk
  · rw [f.2 q (hget_lt (h.dat q hq).2) (ho q hq)]; exact (h.dat q hq).2
theorem VSt.push {H : Heap} {p : Nat} {o : Option Nat} {bs : List Bool} {err : Int} (h : VSt H p o bs err) (b : Option Blk) : VSt (H ++ [b]) p o bs err :=
  h.frame (O := []) ((Frm.refl _ _).push b) (by simp) (by simp)
theorem VSt.setErr {H : Heap} {p : Nat} {o : Option Nat} {bs : List Bool} {err : Int} (h : VSt H p o bs err) (err' : Int) :
    VSt (H.set p (some ⟨true, [sliceOf o (bn bs), .int .i64 err']⟩)) p o bs err' := by
  refine ⟨hget_set_self (hget_lt h.blk), h.nil, fun q hq => ⟨(h.dat q hq).1, ?_⟩⟩
  rw [hget_set_ne (Ne.symm (h.dat q hq).1)]; exact (h.dat q hq).2

/-- Behind a reference writer's method. -/
def VWrote (H : Heap) (p : Nat) (o : Option Nat) (s : WS) (K : Value → Heap → Prop) : Prop :=
  ∀ H' o', VSt H' p o' s.bs s.err → Frm (p :: o.toList) H H' → (∀ q, o' = some q → o = some q ∨ H.length ≤ q) → K (.tuple #[]) H'

theorem shrI (n : Int) (s : Nat) (hs : s ≤ 64) : binV .shr (.int .i64 n) (.int .i64 (s : Int)) = some (.int .i64 (n / 2 ^ s)) := by
  rw [binV_shr _ _ _ _ (by omega), show min ((s : Int)).toNat IntKind.i64.bits = s by simp [IntKind.bits]; omega, Int.fdiv_eq_ediv_of_nonneg _ (Int.pow_nonneg (by omega))]
theorem and1I (a : Int) : binV .and (.int .i64 a) (.int .i64 1) = some (.int .i64 (a % 2)) := by
  rw [binV_and]
  have : (BitVec.ofInt IntKind.i64.bits a &&& BitVec.ofInt IntKind.i64.bits 1).toNat = (a % 18446744073709551616).toNat % 2 := by
    rw [BitVec.toNat_and]
    simp only [BitVec.toNat_ofInt, IntKind.bits]
    rw [show ((2 ^ 64 : Nat) : Int) = 18446744073709551616 by decide, show ((1 : Int) % 18446744073709551616).toNat = 1 by decide, Nat.and_one_is_mod]
  rw [this, wrap_i64 (by omega) (by omega)]
  congr 2; omega
theorem bit_int (n : Int) (k : Nat) (hk : k < 64) : (n / 2 ^ k) % 2 = (((u64 n).testBit k).toNat : Int) := by
  rw [← testBit_mod]
  obtain ⟨m, hm⟩ : ∃ m, 64 = k + (m + 1) := ⟨63 - k, by omega⟩
  have h64 : (18446744073709551616 : Int) = 2 ^ k * (2 * 2 ^ m) := by
    rw [show (18446744073709551616 : Int) = 2 ^ 64 by decide, hm, Int.pow_add, Int.pow_succ, Int.mul_comm (2 ^ m) 2]
  have hu : ((u64 n : Nat) : Int) = n % 18446744073709551616 := by unfold u64; omega
  have hn := Int.emod_add_mul_ediv n 18446744073709551616
  have hpos : (2 : Int) ^ k ≠ 0 := by have := pow_pos' k; omega
  rw [Int.natCast_emod, Int.natCast_ediv, ← pow_cast', hu]
  generalize hr : n % 18446744073709551616 = r at *
  generalize n / 18446744073709551616 = q at *
  rw [← hn, h64, Int.mul_assoc, Int.add_mul_ediv_left _ _ hpos]
  generalize r / 2 ^ k = x
  rw [Int.mul_assoc]
  generalize 2 ^ m * q = y
  omega
where pow_cast' {k : Nat} : (2 : Int) ^ k = ((2 ^ k : Nat) : Int) := by push_cast; rfl

theorem wrap_bitI (b : Bool) : IntKind.u8.wrap ((b.toNat : Nat) : Int) = ((b.toNat : Nat) : Int) := by cases b <;> rfl
theorem u8s_one (x : Nat) : [Value.int .u8 (x : Int)] = u8s [x] := rfl

theorem vput_spec {H : Heap} {p : Nat} {o : Option Nat} {bs : List Bool} {err n : Int} {w : Nat} (hw : w ≤ 64) (hlen : bs.length + w < 600000) (h : VSt H p o bs err) (K : Value → Heap → Prop)
    (hk : ∀ H' o', VSt H' p o' (bs ++ bitsOf w (u64 n)) err → Frm (p :: o.toList) H H' → (∀ q, o' = some q → o = some q ∨ H.length ≤ q) → K (.tuple #[]) H') :
    Op1 (AC tbl 59 [.pointer (some ⟨p, 0, none⟩), .int .i64 (w : Int), .int .i64 n] H) K := by
  apply AC_wp (F := F59) rfl (by simp [F59]) (.inl rfl)
  have hw0 : IntKind.i64.wrap ((w : Int) - 1) = (w : Int) - 1 := wrap_i64 (by omega) (by omega)
  simp only [F59, ↓RW_seq, ↓AW_ret, ↓AW_skip, ↓AW_exit, ↓AW_block, ↓RW_cond, ↓RW_reg, ↓RW_regd, ↓RO_op, ↓RO_t, ↓RO_f, ↓RO_nt, ↓RO_nf, ↓RO_u, ↓AO_nil, ↓RD_op, ↓RD_t, ↓RD_f, ↓RD_nt, ↓RD_fe, ↓RD_nte, ↓RD_nf, ↓RD_u, ↓AOD_nil, CDops_eff, CDops_no, CDops_1, CDops_2, Again_nil, Again_cons, Same1_int, Same1_bool, Same1_str, Same1_ptr, Same1_slice, Same1_nil, CSeq_ap, CReg_ap, COps_ap, Then_normal, Then_ret, Then_exit, InBlock_normal, InBlock_ret, InBlock_self, InBlock_exit, Ends_ret, Ends_normal, ares, tup, finO_some, fin_same, fin_false, argsE, dval, aop, ev, evs, evo, evp, fillL, addrOf, intOf?, lk_put, lk_none, lk_cons, lk_nil, keep_nil, keep_cons, Op1_some, Option.map_some, Option.bind_some, reduceIte, Nat.reduceEqDiff, binV_lss, binV_leq, binV_gtr, binV_geq, binV_eql, binV_neq, binV_add, binV_sub, binV_mul, un_not, CondA_false, CondA_true, Bool.not_true, Bool.not_false, reduceCtorEq, decide_true, decide_false, Nat.add_zero, Nat.zero_add, Nat.reduceAdd, Nat.reduceMul, Bool.bne_false, Bool.bne_true, eqPtr, Option.isNone_some, Option.isNone_none, List.getElem?_cons_zero, List.getElem?_cons_succ, Option.isSome_none, Option.isSome_some , hw0]
  apply AW_loop_inv (fun j e H1 => e = [(0, .pointer (some ⟨p, 0, none⟩)), (2, .int .i64 n), (6, .int .i64 ((j : Int) - 1))] ∧ j ≤ w ∧ ∃ bs1 o1, VSt H1 p o1 bs1 err ∧ bs1 ++ bitsOf j (u64 n) = bs ++ bitsOf w (u64 n) ∧ Frm (p :: o.toList) H H1 ∧ (∀ q, o1 = some q → o = some q ∨ H.length ≤ q)) _ w
  · exact ⟨rfl, Nat.le_refl _, bs, o, h, rfl, Frm.refl _ _, fun q hq => .inl hq⟩
  · rintro j e H1 ⟨rfl, hjw, bs1, o1, h1, h2, h3, h4⟩
    have hl : bs1.length + j = bs.length + w := by
      have := congrArg List.length h2
      simpa [bitsOf_length] using this
    cases j with
    | zero =>
      have g0 : ¬ (0 : Int) ≤ ((0 : Nat) : Int) - 1 := by omega
      simp only [↓RW_seq, ↓AW_ret, ↓AW_skip, ↓AW_exit, ↓AW_block, ↓RW_cond, ↓RW_reg, ↓RW_regd, ↓RO_op, ↓RO_t, ↓RO_f, ↓RO_nt, ↓RO_nf, ↓RO_u, ↓AO_nil, ↓RD_op, ↓RD_t, ↓RD_f, ↓RD_nt, ↓RD_fe, ↓RD_nte, ↓RD_nf, ↓RD_u, ↓AOD_nil, CDops_eff, CDops_no, CDops_1, CDops_2, Again_nil, Again_cons, Same1_int, Same1_bool, Same1_str, Same1_ptr, Same1_slice, Same1_nil, CSeq_ap, CReg_ap, COps_ap, Then_normal, Then_ret, Then_exit, InBlock_normal, InBlock_ret, InBlock_self, InBlock_exit, Ends_ret, Ends_normal, ares, tup, finO_some, fin_same, fin_false, argsE, dval, aop, ev, evs, evo, evp, fillL, addrOf, intOf?, lk_put, lk_none, lk_cons, lk_nil, keep_nil, keep_cons, Op1_some, Option.map_some, Option.bind_some, reduceIte, Nat.reduceEqDiff, binV_lss, binV_leq, binV_gtr, binV_geq, binV_eql, binV_neq, binV_add, binV_sub, binV_mul, un_not, CondA_false, CondA_true, Bool.not_true, Bool.not_false, reduceCtorEq, decide_true, decide_false, Nat.add_zero, Nat.zero_add, Nat.reduceAdd, Nat.reduceMul, Bool.bne_false, Bool.bne_true, eqPtr, Option.isNone_some, Option.isNone_none, List.getElem?_cons_zero, List.getElem?_cons_succ, Option.isSome_none, Option.isSome_some , g0]
      refine hk _ o1 ?_ h3 h4
      rw [← h2]; simpa [bitsOf] using h1
    | succ j =>
      have g0 : (0 : Int) ≤ ((j + 1 : Nat) : Int) - 1 := by omega
      have g1 : ((j + 1 : Nat) : Int) - 1 = (j : Int) := by omega
      have g2 : IntKind.i64.wrap ((j : Int) - 1) = (j : Int) - 1 := wrap_i64 (by omega) (by omega)
      have hp := h1.blk
      have hpl := hget_lt hp
      have hpl1 : p < H1.length + 1 := by omega
      have heq : (bs1 ++ [(u64 n).testBit j]) ++ bitsOf j (u64 n) = bs ++ bitsOf w (u64 n) := by rw [← h2]; simp [bitsOf]
      rw [g1] at g0 ⊢
      cases o1 with
      | none =>
        have hnil := h1.nil rfl
        subst hnil
        simp only [↓RW_seq, ↓AW_ret, ↓AW_skip, ↓AW_exit, ↓AW_block, ↓RW_cond, ↓RW_reg, ↓RW_regd, ↓RO_op, ↓RO_t, ↓RO_f, ↓RO_nt, ↓RO_nf, ↓RO_u, ↓AO_nil, ↓RD_op, ↓RD_t, ↓RD_f, ↓RD_nt, ↓RD_fe, ↓RD_nte, ↓RD_nf, ↓RD_u, ↓AOD_nil, CDops_eff, CDops_no, CDops_1, CDops_2, Again_nil, Again_cons, Same1_int, Same1_bool, Same1_str, Same1_ptr, Same1_slice, Same1_nil, CSeq_ap, CReg_ap, COps_ap, Then_normal, Then_ret, Then_exit, InBlock_normal, InBlock_ret, InBlock_self, InBlock_exit, Ends_ret, Ends_normal, ares, tup, finO_some, fin_same, fin_false, argsE, dval, aop, ev, evs, evo, evp, fillL, addrOf, intOf?, lk_put, lk_none, lk_cons, lk_nil, keep_nil, keep_cons, Op1_some, Option.map_some, Option.bind_some, reduceIte, Nat.reduceEqDiff, binV_lss, binV_leq, binV_gtr, binV_geq, binV_eql, binV_neq, binV_add, binV_sub, binV_mul, un_not, CondA_false, CondA_true, Bool.not_true, Bool.not_false, reduceCtorEq, decide_true, decide_false, Nat.add_zero, Nat.zero_add, Nat.reduceAdd, Nat.reduceMul, Bool.bne_false, Bool.bne_true, eqPtr, Option.isNone_some, Option.isNone_none, List.getElem?_cons_zero, List.getElem?_cons_succ, Option.isSome_none, Option.isSome_some , hload, hstore, List.length_cons, List.length_nil, Nat.reduceAdd, Nat.reduceLeDiff, decide_true, List.all_cons, List.all_nil, one, Bool.and_true, Bool.true_and, Bool.and_self, splice, List.set_cons_zero, List.set_cons_succ, List.getElem?_cons_zero, List.getElem?_cons_succ, vc_int, vc_slice, vc_str, vc_bool, vc_int', vc_slice', vc_str', vc_bool', List.length_set, List.length_append, Nat.lt_irrefl, Nat.lt_add_one, and_self, true_and, and_true, lenV, cellsOfSlice, Nat.le_refl, if_true , g0, g2, shrI n j (by omega), and1I, bit_int n j (by omega), wrap_bitI, hp, sliceOf, hget_append_self, List.drop_zero, take1, hget_lt_app, hpl, hpl1]
        refine ⟨j, by omega, rfl, by omega, _, some (H1.length + 1), ⟨?_, fun h => by simp at h, fun q hq => ?_⟩, heq, ?_, fun q hq => ?_⟩
        · rw [hget_set_self (by simp; omega)]; rfl
        · injection hq with hq
          subst hq
          refine ⟨by omega, ?_⟩
          rw [hget_set_ne (by omega), hget_app]
          simp; rfl
        · exact ((h3.push _).push _).set _ (.inl (by simp))
        · injection hq with hq; right; have := h3.1; omega
      | some q =>
        obtain ⟨hqp, hq2⟩ := h1.dat q rfl
        have hql := hget_lt hq2
        have hql1 : q < H1.length + 1 := by omega
        have hcap : (bn bs1).length * 1 = (u8s (bn bs1)).length ∧ ((bn bs1).length + 1) * 1 ≤ 1000000000 := by rw [u8s_length, bn_length]; omega
        simp only [↓RW_seq, ↓AW_ret, ↓AW_skip, ↓AW_exit, ↓AW_block, ↓RW_cond, ↓RW_reg, ↓RW_regd, ↓RO_op, ↓RO_t, ↓RO_f, ↓RO_nt, ↓RO_nf, ↓RO_u, ↓AO_nil, ↓RD_op, ↓RD_t, ↓RD_f, ↓RD_nt, ↓RD_fe, ↓RD_nte, ↓RD_nf, ↓RD_u, ↓AOD_nil, CDops_eff, CDops_no, CDops_1, CDops_2, Again_nil, Again_cons, Same1_int, Same1_bool, Same1_str, Same1_ptr, Same1_slice, Same1_nil, CSeq_ap, CReg_ap, COps_ap, Then_normal, Then_ret, Then_exit, InBlock_normal, InBlock_ret, InBlock_self, InBlock_exit, Ends_ret, Ends_normal, ares, tup, finO_some, fin_same, fin_false, argsE, dval, aop, ev, evs, evo, evp, fillL, addrOf, intOf?, lk_put, lk_none, lk_cons, lk_nil, keep_nil, keep_cons, Op1_some, Option.map_some, Option.bind_some, reduceIte, Nat.reduceEqDiff, binV_lss, binV_leq, binV_gtr, binV_geq, binV_eql, binV_neq, binV_add, binV_sub, binV_mul, un_not, CondA_false, CondA_true, Bool.not_true, Bool.not_false, reduceCtorEq, decide_true, decide_false, Nat.add_zero, Nat.zero_add, Nat.reduceAdd, Nat.reduceMul, Bool.bne_false, Bool.bne_true, eqPtr, Option.isNone_some, Option.isNone_none, List.getElem?_cons_zero, List.getElem?_cons_succ, Option.isSome_none, Option.isSome_some , hload, hstore, List.length_cons, List.length_nil, Nat.reduceAdd, Nat.reduceLeDiff, decide_true, List.all_cons, List.all_nil, one, Bool.and_true, Bool.true_and, Bool.and_self, splice, List.set_cons_zero, List.set_cons_succ, List.getElem?_cons_zero, List.getElem?_cons_succ, vc_int, vc_slice, vc_str, vc_bool, vc_int', vc_slice', vc_str', vc_bool', List.length_set, List.length_append, Nat.lt_irrefl, Nat.lt_add_one, and_self, true_and, and_true, lenV, cellsOfSlice, Nat.le_refl, if_true , g0, g2, shrI n j (by omega), and1I, bit_int n j (by omega), wrap_bitI, hp, sliceOf, hget_append_self, List.drop_zero, take1, hget_lt_app, hpl, hpl1, hql, hq2, hcap, hget_set_ne hqp]
        refine ⟨j, by omega, rfl, by omega, _, some (H1.length + 1), ⟨?_, fun h => by simp at h, fun q' hq' => ?_⟩, heq, ?_, fun q' hq' => ?_⟩
        · rw [hget_set_self (by simp; omega)]; simp [sliceOf, bn]
        · injection hq' with hq'
          subst hq'
          refine ⟨by omega, ?_⟩
          rw [hget_set_ne (by omega), hget_app]
          simp [bn, u8s]
        · refine (((h3.push _).set _ ?_).push _).set _ (.inl (by simp))
          rcases h4 q rfl with h5 | h5
          · left; simp [h5]
          · right; exact h5
        · injection hq' with hq'; right; have := h3.1; omega

end Go.Proofs.Ytlbhbjaimcinbaa.AI

/- The reference reader. -/
set_option linter.unusedSimpArgs false
namespace Go.Proofs.Ytlbhbjaimcinbaa.AI
open Go

/-- What the reference reader has where the reader has this: nothing is left behind an error. -/
def RS.x (r : RS) : RS := if r.err = 0 then r else ⟨⟨#[]⟩, 0, r.err⟩
theorem RS.x_ok {r : RS} (h : r.err = 0) : r.x = r := if_pos h
theorem RS.x_err {r : RS} : r.x.err = r.err := by unfold RS.x; split <;> rfl
theorem RS.x_bad {r : RS} (h : r.err ≠ 0) : r.x = ⟨⟨#[]⟩, 0, r.err⟩ := if_neg h

theorem or64I (n : Nat) (b : Bool) (h : 2 * n + 1 < 9223372036854775808) : binV .or (.int .i64 ((2 * n : Nat) : Int)) (.int .i64 (b.toNat : Int)) = some (.int .i64 ((2 * n + b.toNat : Nat) : Int)) := by
  have hb : b.toNat ≤ 1 := by cases b <;> simp
  rw [binV_or]
  have : (BitVec.ofInt IntKind.i64.bits ((2 * n : Nat) : Int) ||| BitVec.ofInt IntKind.i64.bits (b.toNat : Int)).toNat = 2 * n + b.toNat := by
    rw [BitVec.toNat_or]
    simp only [BitVec.toNat_ofInt, IntKind.bits]
    have e1 : (((2 * n : Nat) : Int) % ((2 ^ 64 : Nat) : Int)).toNat = 2 * n := by
      rw [show ((2 ^ 64 : Nat) : Int) = 18446744073709551616 by decide]; omega
    have e2 : ((b.toNat : Int) % ((2 ^ 64 : Nat) : Int)).toNat = b.toNat := by
      rw [show ((2 ^ 64 : Nat) : Int) = 18446744073709551616 by decide]; omega
    rw [e1, e2]
    have := Nat.two_pow_add_eq_or_of_lt (i := 1) (b := b.toNat) (by omega) n
    simpa using this.symm
  rw [this, wrap_i64 (by omega) (by omega)]
theorem shlI1 (n : Nat) (h : 2 * n < 9223372036854775808) : binV .shl (.int .i64 (n : Int)) (.int .u64 1) = some (.int .i64 ((2 * n : Nat) : Int)) := by
  have : (2 : Int) ^ min (Int.toNat 1) IntKind.i64.bits = 2 := by rfl
  rw [binV_shl _ _ _ _ (by omega), this, wrap_i64 (by omega) (by omega)]; congr 2; omega

theorem xfail_spec {H : Heap} {p : Nat} {r : RS} {e : Int} (h : RSt H p r) : AC tbl 52 [.pointer (some ⟨p, 0, none⟩), .int .i64 e] H = some (.tuple #[], setR H p ⟨⟨#[]⟩, 0, e⟩) := by
  apply AC_eq
  apply AC_wp (F := F52) rfl (by simp [F52]) (.inl rfl)
  have hp := cells_get h
  have hpl := h.lt
  simp only [F52, ↓RW_seq, ↓AW_ret, ↓AW_skip, ↓AW_exit, ↓AW_block, ↓RW_cond, ↓RW_reg, ↓RW_regd, ↓RO_op, ↓RO_t, ↓RO_f, ↓RO_nt, ↓RO_nf, ↓RO_u, ↓AO_nil, ↓RD_op, ↓RD_t, ↓RD_f, ↓RD_nt, ↓RD_fe, ↓RD_nte, ↓RD_nf, ↓RD_u, ↓AOD_nil, CDops_eff, CDops_no, CDops_1, CDops_2, Again_nil, Again_cons, Same1_int, Same1_bool, Same1_str, Same1_ptr, Same1_slice, Same1_nil, CSeq_ap, CReg_ap, COps_ap, Then_normal, Then_ret, Then_exit, InBlock_normal, InBlock_ret, InBlock_self, InBlock_exit, Ends_ret, Ends_normal, ares, tup, finO_some, fin_same, fin_false, argsE, dval, aop, ev, evs, evo, evp, fillL, addrOf, intOf?, lk_put, lk_none, lk_cons, lk_nil, keep_nil, keep_cons, Op1_some, Option.map_some, Option.bind_some, reduceIte, Nat.reduceEqDiff, binV_lss, binV_leq, binV_gtr, binV_geq, binV_eql, binV_neq, binV_add, binV_sub, binV_mul, un_not, CondA_false, CondA_true, Bool.not_true, Bool.not_false, reduceCtorEq, decide_true, decide_false, Nat.add_zero, Nat.zero_add, Nat.reduceAdd, Nat.reduceMul, Bool.bne_false, Bool.bne_true, eqPtr, Option.isNone_some, Option.isNone_none, List.getElem?_cons_zero, List.getElem?_cons_succ, Option.isSome_none, Option.isSome_some , hload, hstore, List.length_cons, List.length_nil, Nat.reduceAdd, Nat.reduceLeDiff, decide_true, List.all_cons, List.all_nil, one, Bool.and_true, Bool.true_and, Bool.and_self, splice, List.set_cons_zero, List.set_cons_succ, List.getElem?_cons_zero, List.getElem?_cons_succ, vc_int, vc_slice, vc_str, vc_bool, vc_int', vc_slice', vc_str', vc_bool', List.length_set, List.length_append, Nat.lt_irrefl, Nat.lt_add_one, and_self, true_and, and_true, lenV, cellsOfSlice, Nat.le_refl, if_true , hp, hget_set_self, hpl, List.set_set]
  all_goals (first | rfl | exact ⟨rfl, rfl⟩ | exact ⟨rfl, trivial⟩ | exact ⟨trivial, trivial⟩ | exact ⟨trivial, rfl⟩ | trivial)
theorem xleft_spec {H : Heap} {p : Nat} {r : RS} (h : RSt H p r.x) (ho : r.Ok) : AC tbl 34 [.pointer (some ⟨p, 0, none⟩)] H = some (.int .i64 r.left, H) := by
  apply AC_eq
  apply AC_wp (F := F34) rfl (by simp [F34]) (.inl rfl)
  have hp := cells_get h
  have h1 := ho.at_le
  have h2 := ho.size
  by_cases h3 : r.err = 0
  · rw [RS.x_ok h3] at hp
    have w1 : IntKind.i64.wrap (8 * (r.s.size : Int)) = 8 * (r.s.size : Int) := wrap_i64 (by omega) (by omega)
    have w2 : IntKind.i64.wrap (8 * (r.s.size : Int) - (r.at_ : Int)) = 8 * (r.s.size : Int) - (r.at_ : Int) := wrap_i64 (by omega) (by omega)
    simp only [F34, ↓RW_seq, ↓AW_ret, ↓AW_skip, ↓AW_exit, ↓AW_block, ↓RW_cond, ↓RW_reg, ↓RW_regd, ↓RO_op, ↓RO_t, ↓RO_f, ↓RO_nt, ↓RO_nf, ↓RO_u, ↓AO_nil, ↓RD_op, ↓RD_t, ↓RD_f, ↓RD_nt, ↓RD_fe, ↓RD_nte, ↓RD_nf, ↓RD_u, ↓AOD_nil, CDops_eff, CDops_no, CDops_1, CDops_2, Again_nil, Again_cons, Same1_int, Same1_bool, Same1_str, Same1_ptr, Same1_slice, Same1_nil, CSeq_ap, CReg_ap, COps_ap, Then_normal, Then_ret, Then_exit, InBlock_normal, InBlock_ret, InBlock_self, InBlock_exit, Ends_ret, Ends_normal, ares, tup, finO_some, fin_same, fin_false, argsE, dval, aop, ev, evs, evo, evp, fillL, addrOf, intOf?, lk_put, lk_none, lk_cons, lk_nil, keep_nil, keep_cons, Op1_some, Option.map_some, Option.bind_some, reduceIte, Nat.reduceEqDiff, binV_lss, binV_leq, binV_gtr, binV_geq, binV_eql, binV_neq, binV_add, binV_sub, binV_mul, un_not, CondA_false, CondA_true, Bool.not_true, Bool.not_false, reduceCtorEq, decide_true, decide_false, Nat.add_zero, Nat.zero_add, Nat.reduceAdd, Nat.reduceMul, Bool.bne_false, Bool.bne_true, eqPtr, Option.isNone_some, Option.isNone_none, List.getElem?_cons_zero, List.getElem?_cons_succ, Option.isSome_none, Option.isSome_some , hload, hstore, List.length_cons, List.length_nil, Nat.reduceAdd, Nat.reduceLeDiff, decide_true, List.all_cons, List.all_nil, one, Bool.and_true, Bool.true_and, Bool.and_self, splice, List.set_cons_zero, List.set_cons_succ, List.getElem?_cons_zero, List.getElem?_cons_succ, vc_int, vc_slice, vc_str, vc_bool, vc_int', vc_slice', vc_str', vc_bool', List.length_set, List.length_append, Nat.lt_irrefl, Nat.lt_add_one, and_self, true_and, and_true, lenV, cellsOfSlice, Nat.le_refl, if_true , hp, w1, w2, RS.left, h3]
  · rw [RS.x_bad h3] at hp
    have w1 : IntKind.i64.wrap (8 * (((⟨#[]⟩ : ByteArray).size : Nat) : Int)) = 0 := by decide
    have w2 : IntKind.i64.wrap (0 - ((0 : Nat) : Int)) = 0 := by decide
    simp only [F34, ↓RW_seq, ↓AW_ret, ↓AW_skip, ↓AW_exit, ↓AW_block, ↓RW_cond, ↓RW_reg, ↓RW_regd, ↓RO_op, ↓RO_t, ↓RO_f, ↓RO_nt, ↓RO_nf, ↓RO_u, ↓AO_nil, ↓RD_op, ↓RD_t, ↓RD_f, ↓RD_nt, ↓RD_fe, ↓RD_nte, ↓RD_nf, ↓RD_u, ↓AOD_nil, CDops_eff, CDops_no, CDops_1, CDops_2, Again_nil, Again_cons, Same1_int, Same1_bool, Same1_str, Same1_ptr, Same1_slice, Same1_nil, CSeq_ap, CReg_ap, COps_ap, Then_normal, Then_ret, Then_exit, InBlock_normal, InBlock_ret, InBlock_self, InBlock_exit, Ends_ret, Ends_normal, ares, tup, finO_some, fin_same, fin_false, argsE, dval, aop, ev, evs, evo, evp, fillL, addrOf, intOf?, lk_put, lk_none, lk_cons, lk_nil, keep_nil, keep_cons, Op1_some, Option.map_some, Option.bind_some, reduceIte, Nat.reduceEqDiff, binV_lss, binV_leq, binV_gtr, binV_geq, binV_eql, binV_neq, binV_add, binV_sub, binV_mul, un_not, CondA_false, CondA_true, Bool.not_true, Bool.not_false, reduceCtorEq, decide_true, decide_false, Nat.add_zero, Nat.zero_add, Nat.reduceAdd, Nat.reduceMul, Bool.bne_false, Bool.bne_true, eqPtr, Option.isNone_some, Option.isNone_none, List.getElem?_cons_zero, List.getElem?_cons_succ, Option.isSome_none, Option.isSome_some , hload, hstore, List.length_cons, List.length_nil, Nat.reduceAdd, Nat.reduceLeDiff, decide_true, List.all_cons, List.all_nil, one, Bool.and_true, Bool.true_and, Bool.and_self, splice, List.set_cons_zero, List.set_cons_succ, List.getElem?_cons_zero, List.getElem?_cons_succ, vc_int, vc_slice, vc_str, vc_bool, vc_int', vc_slice', vc_str', vc_bool', List.length_set, List.length_append, Nat.lt_irrefl, Nat.lt_add_one, and_self, true_and, and_true, lenV, cellsOfSlice, Nat.le_refl, if_true , hp, w1, w2, RS.left, h3]
theorem xerr_spec {H : Heap} {p : Nat} {r : RS} (h : RSt H p r.x) : AC tbl 36 [.pointer (some ⟨p, 0, none⟩)] H = some (.int .i64 r.err, H) := by
  apply AC_eq
  apply AC_wp (F := F36) rfl (by simp [F36]) (.inl rfl)
  have hp := cells_get h
  simp only [F36, ↓RW_seq, ↓AW_ret, ↓AW_skip, ↓AW_exit, ↓AW_block, ↓RW_cond, ↓RW_reg, ↓RW_regd, ↓RO_op, ↓RO_t, ↓RO_f, ↓RO_nt, ↓RO_nf, ↓RO_u, ↓AO_nil, ↓RD_op, ↓RD_t, ↓RD_f, ↓RD_nt, ↓RD_fe, ↓RD_nte, ↓RD_nf, ↓RD_u, ↓AOD_nil, CDops_eff, CDops_no, CDops_1, CDops_2, Again_nil, Again_cons, Same1_int, Same1_bool, Same1_str, Same1_ptr, Same1_slice, Same1_nil, CSeq_ap, CReg_ap, COps_ap, Then_normal, Then_ret, Then_exit, InBlock_normal, InBlock_ret, InBlock_self, InBlock_exit, Ends_ret, Ends_normal, ares, tup, finO_some, fin_same, fin_false, argsE, dval, aop, ev, evs, evo, evp, fillL, addrOf, intOf?, lk_put, lk_none, lk_cons, lk_nil, keep_nil, keep_cons, Op1_some, Option.map_some, Option.bind_some, reduceIte, Nat.reduceEqDiff, binV_lss, binV_leq, binV_gtr, binV_geq, binV_eql, binV_neq, binV_add, binV_sub, binV_mul, un_not, CondA_false, CondA_true, Bool.not_true, Bool.not_false, reduceCtorEq, decide_true, decide_false, Nat.add_zero, Nat.zero_add, Nat.reduceAdd, Nat.reduceMul, Bool.bne_false, Bool.bne_true, eqPtr, Option.isNone_some, Option.isNone_none, List.getElem?_cons_zero, List.getElem?_cons_succ, Option.isSome_none, Option.isSome_some , hload, hstore, List.length_cons, List.length_nil, Nat.reduceAdd, Nat.reduceLeDiff, decide_true, List.all_cons, List.all_nil, one, Bool.and_true, Bool.true_and, Bool.and_self, splice, List.set_cons_zero, List.set_cons_succ, List.getElem?_cons_zero, List.getElem?_cons_succ, vc_int, vc_slice, vc_str, vc_bool, vc_int', vc_slice', vc_str', vc_bool', List.length_set, List.length_append, Nat.lt_irrefl, Nat.lt_add_one, and_self, true_and, and_true, lenV, cellsOfSlice, Nat.le_refl, if_true , hp, RS.x_err]

theorem xget_spec {H : Heap} {p : Nat} {r : RS} {w : Int} (h : RSt H p r.x) (ho : r.Ok) (hw : r.err = 0 → 0 ≤ w ∧ w ≤ 63) :
    AC tbl 53 [.pointer (some ⟨p, 0, none⟩), .int .i64 w] H = some (.int .i64 ((r.field true w).1 : Nat), setR H p (r.field true w).2.x) := by
  apply AC_eq
  apply AC_wp (F := F53) rfl (by simp [F53]) (.inl rfl)
  have hp := cells_get h
  have hpl := h.lt
  by_cases h1 : r.err = 0
  · obtain ⟨hw0, hw1⟩ := hw h1
    have hleft := xleft_spec h ho
    rw [RS.x_ok h1] at hp h
    by_cases h2 : r.left < w
    · have hf : r.field true w = (0, { r with err := 9 }) := by simp [RS.field, h1, h2]
      have hx : ({ r with err := 9 } : RS).x = ⟨⟨#[]⟩, 0, 9⟩ := RS.x_bad (by simp)
      simp only [F53, ↓RW_seq, ↓AW_ret, ↓AW_skip, ↓AW_exit, ↓AW_block, ↓RW_cond, ↓RW_reg, ↓RW_regd, ↓RO_op, ↓RO_t, ↓RO_f, ↓RO_nt, ↓RO_nf, ↓RO_u, ↓AO_nil, ↓RD_op, ↓RD_t, ↓RD_f, ↓RD_nt, ↓RD_fe, ↓RD_nte, ↓RD_nf, ↓RD_u, ↓AOD_nil, CDops_eff, CDops_no, CDops_1, CDops_2, Again_nil, Again_cons, Same1_int, Same1_bool, Same1_str, Same1_ptr, Same1_slice, Same1_nil, CSeq_ap, CReg_ap, COps_ap, Then_normal, Then_ret, Then_exit, InBlock_normal, InBlock_ret, InBlock_self, InBlock_exit, Ends_ret, Ends_normal, ares, tup, finO_some, fin_same, fin_false, argsE, dval, aop, ev, evs, evo, evp, fillL, addrOf, intOf?, lk_put, lk_none, lk_cons, lk_nil, keep_nil, keep_cons, Op1_some, Option.map_some, Option.bind_some, reduceIte, Nat.reduceEqDiff, binV_lss, binV_leq, binV_gtr, binV_geq, binV_eql, binV_neq, binV_add, binV_sub, binV_mul, un_not, CondA_false, CondA_true, Bool.not_true, Bool.not_false, reduceCtorEq, decide_true, decide_false, Nat.add_zero, Nat.zero_add, Nat.reduceAdd, Nat.reduceMul, Bool.bne_false, Bool.bne_true, eqPtr, Option.isNone_some, Option.isNone_none, List.getElem?_cons_zero, List.getElem?_cons_succ, Option.isSome_none, Option.isSome_some , hload, hstore, List.length_cons, List.length_nil, Nat.reduceAdd, Nat.reduceLeDiff, decide_true, List.all_cons, List.all_nil, one, Bool.and_true, Bool.true_and, Bool.and_self, splice, List.set_cons_zero, List.set_cons_succ, List.getElem?_cons_zero, List.getElem?_cons_succ, vc_int, vc_slice, vc_str, vc_bool, vc_int', vc_slice', vc_str', vc_bool', List.length_set, List.length_append, Nat.lt_irrefl, Nat.lt_add_one, and_self, true_and, and_true, lenV, cellsOfSlice, Nat.le_refl, if_true , hp, h1, ne_eq, not_true_eq_false, hleft, h2, xfail_spec h, hf, hx]
      all_goals (first | rfl | exact ⟨rfl, rfl⟩ | exact ⟨rfl, trivial⟩ | exact ⟨trivial, trivial⟩ | exact ⟨trivial, rfl⟩ | trivial)
    · obtain ⟨m, rfl⟩ : ∃ m : Nat, w = m := ⟨w.toNat, by omega⟩
      have hf : r.field true (m : Int) = (valOf r.s r.at_ m, { r with at_ := r.at_ + m }) := by simp [RS.field, h1, h2]
      have hx : ({ r with at_ := r.at_ + m } : RS).x = { r with at_ := r.at_ + m } := RS.x_ok h1
      have h3 : r.at_ + m ≤ 8 * r.s.size := by
        simp only [RS.left, if_pos h1] at h2; omega
      have hs := ho.size
      have hx0 : (⟨r.s, r.at_ + m, 0⟩ : RS).x = ⟨r.s, r.at_ + m, r.err⟩ := by rw [RS.x_ok rfl, h1]
      rw [hf]
      simp only [F53, ↓RW_seq, ↓AW_ret, ↓AW_skip, ↓AW_exit, ↓AW_block, ↓RW_cond, ↓RW_reg, ↓RW_regd, ↓RO_op, ↓RO_t, ↓RO_f, ↓RO_nt, ↓RO_nf, ↓RO_u, ↓AO_nil, ↓RD_op, ↓RD_t, ↓RD_f, ↓RD_nt, ↓RD_fe, ↓RD_nte, ↓RD_nf, ↓RD_u, ↓AOD_nil, CDops_eff, CDops_no, CDops_1, CDops_2, Again_nil, Again_cons, Same1_int, Same1_bool, Same1_str, Same1_ptr, Same1_slice, Same1_nil, CSeq_ap, CReg_ap, COps_ap, Then_normal, Then_ret, Then_exit, InBlock_normal, InBlock_ret, InBlock_self, InBlock_exit, Ends_ret, Ends_normal, ares, tup, finO_some, fin_same, fin_false, argsE, dval, aop, ev, evs, evo, evp, fillL, addrOf, intOf?, lk_put, lk_none, lk_cons, lk_nil, keep_nil, keep_cons, Op1_some, Option.map_some, Option.bind_some, reduceIte, Nat.reduceEqDiff, binV_lss, binV_leq, binV_gtr, binV_geq, binV_eql, binV_neq, binV_add, binV_sub, binV_mul, un_not, CondA_false, CondA_true, Bool.not_true, Bool.not_false, reduceCtorEq, decide_true, decide_false, Nat.add_zero, Nat.zero_add, Nat.reduceAdd, Nat.reduceMul, Bool.bne_false, Bool.bne_true, eqPtr, Option.isNone_some, Option.isNone_none, List.getElem?_cons_zero, List.getElem?_cons_succ, Option.isSome_none, Option.isSome_some , hload, hstore, List.length_cons, List.length_nil, Nat.reduceAdd, Nat.reduceLeDiff, decide_true, List.all_cons, List.all_nil, one, Bool.and_true, Bool.true_and, Bool.and_self, splice, List.set_cons_zero, List.set_cons_succ, List.getElem?_cons_zero, List.getElem?_cons_succ, vc_int, vc_slice, vc_str, vc_bool, vc_int', vc_slice', vc_str', vc_bool', List.length_set, List.length_append, Nat.lt_irrefl, Nat.lt_add_one, and_self, true_and, and_true, lenV, cellsOfSlice, Nat.le_refl, if_true , hp, h1, ne_eq, not_true_eq_false, hleft, h2, hx]
      apply AW_loop_inv (fun j e H1 => j ≤ m ∧ e = [(0, .pointer (some ⟨p, 0, none⟩)), (1, .int .i64 (m : Int)), (5, .int .i64 (valOf r.s r.at_ (m - j) : Nat)), (6, .int .i64 ((m - j : Nat) : Int))] ∧ H1 = setR H p { r with at_ := r.at_ + (m - j) }) _ m
      · refine ⟨Nat.le_refl _, by rw [Nat.sub_self]; rfl, ?_⟩
        rw [Nat.sub_self]; exact (setR_same h).symm
      · rintro j e H1 ⟨hj, rfl, rfl⟩
        cases j with
        | zero =>
          have g0 : ¬ (m : Int) < (m : Int) := by omega
          simp only [↓RW_seq, ↓AW_ret, ↓AW_skip, ↓AW_exit, ↓AW_block, ↓RW_cond, ↓RW_reg, ↓RW_regd, ↓RO_op, ↓RO_t, ↓RO_f, ↓RO_nt, ↓RO_nf, ↓RO_u, ↓AO_nil, ↓RD_op, ↓RD_t, ↓RD_f, ↓RD_nt, ↓RD_fe, ↓RD_nte, ↓RD_nf, ↓RD_u, ↓AOD_nil, CDops_eff, CDops_no, CDops_1, CDops_2, Again_nil, Again_cons, Same1_int, Same1_bool, Same1_str, Same1_ptr, Same1_slice, Same1_nil, CSeq_ap, CReg_ap, COps_ap, Then_normal, Then_ret, Then_exit, InBlock_normal, InBlock_ret, InBlock_self, InBlock_exit, Ends_ret, Ends_normal, ares, tup, finO_some, fin_same, fin_false, argsE, dval, aop, ev, evs, evo, evp, fillL, addrOf, intOf?, lk_put, lk_none, lk_cons, lk_nil, keep_nil, keep_cons, Op1_some, Option.map_some, Option.bind_some, reduceIte, Nat.reduceEqDiff, binV_lss, binV_leq, binV_gtr, binV_geq, binV_eql, binV_neq, binV_add, binV_sub, binV_mul, un_not, CondA_false, CondA_true, Bool.not_true, Bool.not_false, reduceCtorEq, decide_true, decide_false, Nat.add_zero, Nat.zero_add, Nat.reduceAdd, Nat.reduceMul, Bool.bne_false, Bool.bne_true, eqPtr, Option.isNone_some, Option.isNone_none, List.getElem?_cons_zero, List.getElem?_cons_succ, Option.isSome_none, Option.isSome_some , g0, Nat.sub_zero, hx0, hx, and_self]
        | succ j =>
          have g0 : ((m - (j + 1) : Nat) : Int) < (m : Int) := by omega
          have hst : hget (setR H p { r with at_ := r.at_ + (m - (j + 1)) }) p = some ⟨true, [.string r.s, .int .i64 ((r.at_ + (m - (j + 1)) : Nat) : Int), .int .i64 r.err]⟩ := setR_st hpl _
          have hv := valOf_lt r.s r.at_ (m - (j + 1))
          have hv2 : 2 ^ (m - (j + 1)) ≤ 2 ^ 62 := Nat.pow_le_pow_right (by omega) (by omega)
          have hv3 : 2 * valOf r.s r.at_ (m - (j + 1)) + 1 < 9223372036854775808 := by
            have : (2 : Nat) ^ 62 = 4611686018427387904 := by decide
            omega
          obtain ⟨b, hb⟩ := str_get r.s ((r.at_ + (m - (j + 1))) / 8) (by omega)
          have hb8 : b.toNat < 256 := b.toNat_lt
          have hbit : b.toNat / 2 ^ (7 - (r.at_ + (m - (j + 1))) % 8) % 2 = (sbit r.s (r.at_ + (m - (j + 1)))).toNat := by
            rw [testBit_mod]; unfold sbit; rw [hb]; rfl
          have hdiv : b.toNat / 2 ^ (7 - (r.at_ + (m - (j + 1))) % 8) < 9223372036854775808 := Nat.lt_of_le_of_lt (Nat.div_le_self _ _) (by omega)
          have g1 : (0 : Int) ≤ (((r.at_ + (m - (j + 1))) / 8 : Nat) : Int) := by omega
          have g2 : IntKind.i64.wrap (((r.at_ + (m - (j + 1)) : Nat) : Int) + 1) = ((r.at_ + (m - j) : Nat) : Int) := by rw [wrap_i64 (by omega) (by omega)]; omega
          have g3 : IntKind.i64.wrap (((m - (j + 1) : Nat) : Int) + 1) = ((m - j : Nat) : Int) := by rw [wrap_i64 (by omega) (by omega)]; omega
          have g4 : IntKind.i64.wrap (b.toNat : Int) = (b.toNat : Int) := wrap_i64 (by omega) (by omega)
          simp only [↓RW_seq, ↓AW_ret, ↓AW_skip, ↓AW_exit, ↓AW_block, ↓RW_cond, ↓RW_reg, ↓RW_regd, ↓RO_op, ↓RO_t, ↓RO_f, ↓RO_nt, ↓RO_nf, ↓RO_u, ↓AO_nil, ↓RD_op, ↓RD_t, ↓RD_f, ↓RD_nt, ↓RD_fe, ↓RD_nte, ↓RD_nf, ↓RD_u, ↓AOD_nil, CDops_eff, CDops_no, CDops_1, CDops_2, Again_nil, Again_cons, Same1_int, Same1_bool, Same1_str, Same1_ptr, Same1_slice, Same1_nil, CSeq_ap, CReg_ap, COps_ap, Then_normal, Then_ret, Then_exit, InBlock_normal, InBlock_ret, InBlock_self, InBlock_exit, Ends_ret, Ends_normal, ares, tup, finO_some, fin_same, fin_false, argsE, dval, aop, ev, evs, evo, evp, fillL, addrOf, intOf?, lk_put, lk_none, lk_cons, lk_nil, keep_nil, keep_cons, Op1_some, Option.map_some, Option.bind_some, reduceIte, Nat.reduceEqDiff, binV_lss, binV_leq, binV_gtr, binV_geq, binV_eql, binV_neq, binV_add, binV_sub, binV_mul, un_not, CondA_false, CondA_true, Bool.not_true, Bool.not_false, reduceCtorEq, decide_true, decide_false, Nat.add_zero, Nat.zero_add, Nat.reduceAdd, Nat.reduceMul, Bool.bne_false, Bool.bne_true, eqPtr, Option.isNone_some, Option.isNone_none, List.getElem?_cons_zero, List.getElem?_cons_succ, Option.isSome_none, Option.isSome_some , hload, hstore, List.length_cons, List.length_nil, Nat.reduceAdd, Nat.reduceLeDiff, decide_true, List.all_cons, List.all_nil, one, Bool.and_true, Bool.true_and, Bool.and_self, splice, List.set_cons_zero, List.set_cons_succ, List.getElem?_cons_zero, List.getElem?_cons_succ, vc_int, vc_slice, vc_str, vc_bool, vc_int', vc_slice', vc_str', vc_bool', List.length_set, List.length_append, Nat.lt_irrefl, Nat.lt_add_one, and_self, true_and, and_true, lenV, cellsOfSlice, Nat.le_refl, if_true , g0, hst, shlI1 _ (by omega : 2 * valOf r.s r.at_ (m - (j + 1)) < 9223372036854775808), quo8 _ (by omega : r.at_ + (m - (j + 1)) < 9223372036854775808), rem8, g1, Int.toNat_natCast, hb, g4,
            sub7 _ (by omega : (r.at_ + (m - (j + 1))) % 8 ≤ 7), shr64i _ _ (by omega : 7 - (r.at_ + (m - (j + 1))) % 8 ≤ 64), and64i _ hdiv, hbit, or64I _ _ hv3, g2, g3]
          refine ⟨j, by omega, by omega, ?_, ?_⟩
          · rw [show m - j = (m - (j + 1)) + 1 by omega, valOf]
          · show List.set (setR H p _) p _ = _
            exact setR_setR H p _ { r with at_ := r.at_ + (m - j) }
  · rw [RS.x_bad h1] at hp
    simp only [F53, ↓RW_seq, ↓AW_ret, ↓AW_skip, ↓AW_exit, ↓AW_block, ↓RW_cond, ↓RW_reg, ↓RW_regd, ↓RO_op, ↓RO_t, ↓RO_f, ↓RO_nt, ↓RO_nf, ↓RO_u, ↓AO_nil, ↓RD_op, ↓RD_t, ↓RD_f, ↓RD_nt, ↓RD_fe, ↓RD_nte, ↓RD_nf, ↓RD_u, ↓AOD_nil, CDops_eff, CDops_no, CDops_1, CDops_2, Again_nil, Again_cons, Same1_int, Same1_bool, Same1_str, Same1_ptr, Same1_slice, Same1_nil, CSeq_ap, CReg_ap, COps_ap, Then_normal, Then_ret, Then_exit, InBlock_normal, InBlock_ret, InBlock_self, InBlock_exit, Ends_ret, Ends_normal, ares, tup, finO_some, fin_same, fin_false, argsE, dval, aop, ev, evs, evo, evp, fillL, addrOf, intOf?, lk_put, lk_none, lk_cons, lk_nil, keep_nil, keep_cons, Op1_some, Option.map_some, Option.bind_some, reduceIte, Nat.reduceEqDiff, binV_lss, binV_leq, binV_gtr, binV_geq, binV_eql, binV_neq, binV_add, binV_sub, binV_mul, un_not, CondA_false, CondA_true, Bool.not_true, Bool.not_false, reduceCtorEq, decide_true, decide_false, Nat.add_zero, Nat.zero_add, Nat.reduceAdd, Nat.reduceMul, Bool.bne_false, Bool.bne_true, eqPtr, Option.isNone_some, Option.isNone_none, List.getElem?_cons_zero, List.getElem?_cons_succ, Option.isSome_none, Option.isSome_some , hload, hstore, List.length_cons, List.length_nil, Nat.reduceAdd, Nat.reduceLeDiff, decide_true, List.all_cons, List.all_nil, one, Bool.and_true, Bool.true_and, Bool.and_self, splice, List.set_cons_zero, List.set_cons_succ, List.getElem?_cons_zero, List.getElem?_cons_succ, vc_int, vc_slice, vc_str, vc_bool, vc_int', vc_slice', vc_str', vc_bool', List.length_set, List.length_append, Nat.lt_irrefl, Nat.lt_add_one, and_self, true_and, and_true, lenV, cellsOfSlice, Nat.le_refl, if_true , hp, h1, ne_eq, not_false_eq_true, field_err h1]
    exact ⟨rfl, (setR_same h).symm⟩

theorem newX_eq (H : Heap) (s : ByteArray) : AC tbl 28 [.string s] H = some (.pointer (some ⟨H.length, 0, none⟩), H ++ [some ⟨true, (newR s).x.cells⟩]) := by
  apply AC_eq
  apply AC_wp (F := F28) rfl (by simp [F28]) (.inl rfl)
  by_cases h : (65536 : Int) < (s.size : Int)
  · have h' : 65536 < s.size := by omega
    simp only [F28, ↓RW_seq, ↓AW_ret, ↓AW_skip, ↓AW_exit, ↓AW_block, ↓RW_cond, ↓RW_reg, ↓RW_regd, ↓RO_op, ↓RO_t, ↓RO_f, ↓RO_nt, ↓RO_nf, ↓RO_u, ↓AO_nil, ↓RD_op, ↓RD_t, ↓RD_f, ↓RD_nt, ↓RD_fe, ↓RD_nte, ↓RD_nf, ↓RD_u, ↓AOD_nil, CDops_eff, CDops_no, CDops_1, CDops_2, Again_nil, Again_cons, Same1_int, Same1_bool, Same1_str, Same1_ptr, Same1_slice, Same1_nil, CSeq_ap, CReg_ap, COps_ap, Then_normal, Then_ret, Then_exit, InBlock_normal, InBlock_ret, InBlock_self, InBlock_exit, Ends_ret, Ends_normal, ares, tup, finO_some, fin_same, fin_false, argsE, dval, aop, ev, evs, evo, evp, fillL, addrOf, intOf?, lk_put, lk_none, lk_cons, lk_nil, keep_nil, keep_cons, Op1_some, Option.map_some, Option.bind_some, reduceIte, Nat.reduceEqDiff, binV_lss, binV_leq, binV_gtr, binV_geq, binV_eql, binV_neq, binV_add, binV_sub, binV_mul, un_not, CondA_false, CondA_true, Bool.not_true, Bool.not_false, reduceCtorEq, decide_true, decide_false, Nat.add_zero, Nat.zero_add, Nat.reduceAdd, Nat.reduceMul, Bool.bne_false, Bool.bne_true, eqPtr, Option.isNone_some, Option.isNone_none, List.getElem?_cons_zero, List.getElem?_cons_succ, Option.isSome_none, Option.isSome_some , hload, hstore, List.length_cons, List.length_nil, Nat.reduceAdd, Nat.reduceLeDiff, decide_true, List.all_cons, List.all_nil, one, Bool.and_true, Bool.true_and, Bool.and_self, splice, List.set_cons_zero, List.set_cons_succ, List.getElem?_cons_zero, List.getElem?_cons_succ, vc_int, vc_slice, vc_str, vc_bool, vc_int', vc_slice', vc_str', vc_bool', List.length_set, List.length_append, Nat.lt_irrefl, Nat.lt_add_one, and_self, true_and, and_true, lenV, cellsOfSlice, Nat.le_refl, if_true , h]
    simp [newR, h', RS.cells, RS.x]; rfl
  · have h' : ¬ 65536 < s.size := by omega
    simp only [F28, ↓RW_seq, ↓AW_ret, ↓AW_skip, ↓AW_exit, ↓AW_block, ↓RW_cond, ↓RW_reg, ↓RW_regd, ↓RO_op, ↓RO_t, ↓RO_f, ↓RO_nt, ↓RO_nf, ↓RO_u, ↓AO_nil, ↓RD_op, ↓RD_t, ↓RD_f, ↓RD_nt, ↓RD_fe, ↓RD_nte, ↓RD_nf, ↓RD_u, ↓AOD_nil, CDops_eff, CDops_no, CDops_1, CDops_2, Again_nil, Again_cons, Same1_int, Same1_bool, Same1_str, Same1_ptr, Same1_slice, Same1_nil, CSeq_ap, CReg_ap, COps_ap, Then_normal, Then_ret, Then_exit, InBlock_normal, InBlock_ret, InBlock_self, InBlock_exit, Ends_ret, Ends_normal, ares, tup, finO_some, fin_same, fin_false, argsE, dval, aop, ev, evs, evo, evp, fillL, addrOf, intOf?, lk_put, lk_none, lk_cons, lk_nil, keep_nil, keep_cons, Op1_some, Option.map_some, Option.bind_some, reduceIte, Nat.reduceEqDiff, binV_lss, binV_leq, binV_gtr, binV_geq, binV_eql, binV_neq, binV_add, binV_sub, binV_mul, un_not, CondA_false, CondA_true, Bool.not_true, Bool.not_false, reduceCtorEq, decide_true, decide_false, Nat.add_zero, Nat.zero_add, Nat.reduceAdd, Nat.reduceMul, Bool.bne_false, Bool.bne_true, eqPtr, Option.isNone_some, Option.isNone_none, List.getElem?_cons_zero, List.getElem?_cons_succ, Option.isSome_none, Option.isSome_some , hload, hstore, List.length_cons, List.length_nil, Nat.reduceAdd, Nat.reduceLeDiff, decide_true, List.all_cons, List.all_nil, one, Bool.and_true, Bool.true_and, Bool.and_self, splice, List.set_cons_zero, List.set_cons_succ, List.getElem?_cons_zero, List.getElem?_cons_succ, vc_int, vc_slice, vc_str, vc_bool, vc_int', vc_slice', vc_str', vc_bool', List.length_set, List.length_append, Nat.lt_irrefl, Nat.lt_add_one, and_self, true_and, and_true, lenV, cellsOfSlice, Nat.le_refl, if_true , h]
    simp [newR, h', RS.cells, RS.x]; rfl

theorem field_bad {r : RS} (h : r.err = 0) (w : Int) : r.field false w = (0, { r with err := 1 }) := by simp [RS.field, h]
theorem field_any {r : RS} (h : r.err ≠ 0) (a b : Bool) (w w' : Int) : r.field a w = r.field b w' := by rw [field_err h, field_err h]
theorem x_fail {r : RS} {e : Int} (he : e ≠ 0) : ({ r with err := e } : RS).x = ⟨⟨#[]⟩, 0, e⟩ := RS.x_bad he

theorem xunsigned_spec {H : Heap} {p : Nat} {r : RS} {w : Int} (h : RSt H p r.x) (ho : r.Ok) :
    AC tbl 29 [.pointer (some ⟨p, 0, none⟩), .int .i64 w] H = some (.int .i64 (r.unsigned w).1, setR H p (r.unsigned w).2.x) := by
  apply AC_eq
  apply AC_wp (F := F29) rfl (by simp [F29]) (.inl rfl)
  have hp := cells_get h
  have hpl := h.lt
  unfold RS.unsigned
  by_cases h1 : r.err = 0
  · by_cases h2 : 1 ≤ w ∧ w ≤ 63
    · have hd : decide (1 ≤ w ∧ w ≤ 63) = true := by simpa using h2
      have e1 : ¬ w < 1 := by omega
      have e2 : ¬ 63 < w := by omega
      have hg := xget_spec (w := w) h ho (fun _ => by omega)
      simp only [F29, ↓RW_seq, ↓AW_ret, ↓AW_skip, ↓AW_exit, ↓AW_block, ↓RW_cond, ↓RW_reg, ↓RW_regd, ↓RO_op, ↓RO_t, ↓RO_f, ↓RO_nt, ↓RO_nf, ↓RO_u, ↓AO_nil, ↓RD_op, ↓RD_t, ↓RD_f, ↓RD_nt, ↓RD_fe, ↓RD_nte, ↓RD_nf, ↓RD_u, ↓AOD_nil, CDops_eff, CDops_no, CDops_1, CDops_2, Again_nil, Again_cons, Same1_int, Same1_bool, Same1_str, Same1_ptr, Same1_slice, Same1_nil, CSeq_ap, CReg_ap, COps_ap, Then_normal, Then_ret, Then_exit, InBlock_normal, InBlock_ret, InBlock_self, InBlock_exit, Ends_ret, Ends_normal, ares, tup, finO_some, fin_same, fin_false, argsE, dval, aop, ev, evs, evo, evp, fillL, addrOf, intOf?, lk_put, lk_none, lk_cons, lk_nil, keep_nil, keep_cons, Op1_some, Option.map_some, Option.bind_some, reduceIte, Nat.reduceEqDiff, binV_lss, binV_leq, binV_gtr, binV_geq, binV_eql, binV_neq, binV_add, binV_sub, binV_mul, un_not, CondA_false, CondA_true, Bool.not_true, Bool.not_false, reduceCtorEq, decide_true, decide_false, Nat.add_zero, Nat.zero_add, Nat.reduceAdd, Nat.reduceMul, Bool.bne_false, Bool.bne_true, eqPtr, Option.isNone_some, Option.isNone_none, List.getElem?_cons_zero, List.getElem?_cons_succ, Option.isSome_none, Option.isSome_some , hload, hstore, List.length_cons, List.length_nil, Nat.reduceAdd, Nat.reduceLeDiff, decide_true, List.all_cons, List.all_nil, one, Bool.and_true, Bool.true_and, Bool.and_self, splice, List.set_cons_zero, List.set_cons_succ, List.getElem?_cons_zero, List.getElem?_cons_succ, vc_int, vc_slice, vc_str, vc_bool, vc_int', vc_slice', vc_str', vc_bool', List.length_set, List.length_append, Nat.lt_irrefl, Nat.lt_add_one, and_self, true_and, and_true, lenV, cellsOfSlice, Nat.le_refl, if_true , hp, RS.x_err, h1, e1, e2, hg, hd]
      all_goals (first | rfl | exact ⟨rfl, rfl⟩ | exact ⟨rfl, trivial⟩ | exact ⟨trivial, trivial⟩ | exact ⟨trivial, rfl⟩ | trivial)
    · have hd : decide (1 ≤ w ∧ w ≤ 63) = false := by simpa using h2
      have hg := @xget_spec (setR H p ⟨⟨#[]⟩, 0, 1⟩) p { r with err := 1 } w (by rw [x_fail (by omega)]; exact setR_st hpl _) ⟨ho.at_le, ho.size⟩ (fun hh => by simp at hh)
      rw [field_err (by simp)] at hg
      simp only [x_fail (by omega : (1 : Int) ≠ 0), setR_setR] at hg
      by_cases e1 : w < 1
      · simp only [F29, ↓RW_seq, ↓AW_ret, ↓AW_skip, ↓AW_exit, ↓AW_block, ↓RW_cond, ↓RW_reg, ↓RW_regd, ↓RO_op, ↓RO_t, ↓RO_f, ↓RO_nt, ↓RO_nf, ↓RO_u, ↓AO_nil, ↓RD_op, ↓RD_t, ↓RD_f, ↓RD_nt, ↓RD_fe, ↓RD_nte, ↓RD_nf, ↓RD_u, ↓AOD_nil, CDops_eff, CDops_no, CDops_1, CDops_2, Again_nil, Again_cons, Same1_int, Same1_bool, Same1_str, Same1_ptr, Same1_slice, Same1_nil, CSeq_ap, CReg_ap, COps_ap, Then_normal, Then_ret, Then_exit, InBlock_normal, InBlock_ret, InBlock_self, InBlock_exit, Ends_ret, Ends_normal, ares, tup, finO_some, fin_same, fin_false, argsE, dval, aop, ev, evs, evo, evp, fillL, addrOf, intOf?, lk_put, lk_none, lk_cons, lk_nil, keep_nil, keep_cons, Op1_some, Option.map_some, Option.bind_some, reduceIte, Nat.reduceEqDiff, binV_lss, binV_leq, binV_gtr, binV_geq, binV_eql, binV_neq, binV_add, binV_sub, binV_mul, un_not, CondA_false, CondA_true, Bool.not_true, Bool.not_false, reduceCtorEq, decide_true, decide_false, Nat.add_zero, Nat.zero_add, Nat.reduceAdd, Nat.reduceMul, Bool.bne_false, Bool.bne_true, eqPtr, Option.isNone_some, Option.isNone_none, List.getElem?_cons_zero, List.getElem?_cons_succ, Option.isSome_none, Option.isSome_some , hload, hstore, List.length_cons, List.length_nil, Nat.reduceAdd, Nat.reduceLeDiff, decide_true, List.all_cons, List.all_nil, one, Bool.and_true, Bool.true_and, Bool.and_self, splice, List.set_cons_zero, List.set_cons_succ, List.getElem?_cons_zero, List.getElem?_cons_succ, vc_int, vc_slice, vc_str, vc_bool, vc_int', vc_slice', vc_str', vc_bool', List.length_set, List.length_append, Nat.lt_irrefl, Nat.lt_add_one, and_self, true_and, and_true, lenV, cellsOfSlice, Nat.le_refl, if_true , hp, RS.x_err, h1, e1, xfail_spec h, hg, hd, field_bad h1, x_fail (by omega : (1 : Int) ≠ 0)]
        all_goals (first | rfl | exact ⟨rfl, rfl⟩ | exact ⟨rfl, trivial⟩ | exact ⟨trivial, trivial⟩ | exact ⟨trivial, rfl⟩ | trivial)
      · have e2 : 63 < w := by omega
        simp only [F29, ↓RW_seq, ↓AW_ret, ↓AW_skip, ↓AW_exit, ↓AW_block, ↓RW_cond, ↓RW_reg, ↓RW_regd, ↓RO_op, ↓RO_t, ↓RO_f, ↓RO_nt, ↓RO_nf, ↓RO_u, ↓AO_nil, ↓RD_op, ↓RD_t, ↓RD_f, ↓RD_nt, ↓RD_fe, ↓RD_nte, ↓RD_nf, ↓RD_u, ↓AOD_nil, CDops_eff, CDops_no, CDops_1, CDops_2, Again_nil, Again_cons, Same1_int, Same1_bool, Same1_str, Same1_ptr, Same1_slice, Same1_nil, CSeq_ap, CReg_ap, COps_ap, Then_normal, Then_ret, Then_exit, InBlock_normal, InBlock_ret, InBlock_self, InBlock_exit, Ends_ret, Ends_normal, ares, tup, finO_some, fin_same, fin_false, argsE, dval, aop, ev, evs, evo, evp, fillL, addrOf, intOf?, lk_put, lk_none, lk_cons, lk_nil, keep_nil, keep_cons, Op1_some, Option.map_some, Option.bind_some, reduceIte, Nat.reduceEqDiff, binV_lss, binV_leq, binV_gtr, binV_geq, binV_eql, binV_neq, binV_add, binV_sub, binV_mul, un_not, CondA_false, CondA_true, Bool.not_true, Bool.not_false, reduceCtorEq, decide_true, decide_false, Nat.add_zero, Nat.zero_add, Nat.reduceAdd, Nat.reduceMul, Bool.bne_false, Bool.bne_true, eqPtr, Option.isNone_some, Option.isNone_none, List.getElem?_cons_zero, List.getElem?_cons_succ, Option.isSome_none, Option.isSome_some , hload, hstore, List.length_cons, List.length_nil, Nat.reduceAdd, Nat.reduceLeDiff, decide_true, List.all_cons, List.all_nil, one, Bool.and_true, Bool.true_and, Bool.and_self, splice, List.set_cons_zero, List.set_cons_succ, List.getElem?_cons_zero, List.getElem?_cons_succ, vc_int, vc_slice, vc_str, vc_bool, vc_int', vc_slice', vc_str', vc_bool', List.length_set, List.length_append, Nat.lt_irrefl, Nat.lt_add_one, and_self, true_and, and_true, lenV, cellsOfSlice, Nat.le_refl, if_true , hp, RS.x_err, h1, e1, e2, xfail_spec h, hg, hd, field_bad h1, x_fail (by omega : (1 : Int) ≠ 0)]
        all_goals (first | rfl | exact ⟨rfl, rfl⟩ | exact ⟨rfl, trivial⟩ | exact ⟨trivial, trivial⟩ | exact ⟨trivial, rfl⟩ | trivial)
  · simp only [F29, ↓RW_seq, ↓AW_ret, ↓AW_skip, ↓AW_exit, ↓AW_block, ↓RW_cond, ↓RW_reg, ↓RW_regd, ↓RO_op, ↓RO_t, ↓RO_f, ↓RO_nt, ↓RO_nf, ↓RO_u, ↓AO_nil, ↓RD_op, ↓RD_t, ↓RD_f, ↓RD_nt, ↓RD_fe, ↓RD_nte, ↓RD_nf, ↓RD_u, ↓AOD_nil, CDops_eff, CDops_no, CDops_1, CDops_2, Again_nil, Again_cons, Same1_int, Same1_bool, Same1_str, Same1_ptr, Same1_slice, Same1_nil, CSeq_ap, CReg_ap, COps_ap, Then_normal, Then_ret, Then_exit, InBlock_normal, InBlock_ret, InBlock_self, InBlock_exit, Ends_ret, Ends_normal, ares, tup, finO_some, fin_same, fin_false, argsE, dval, aop, ev, evs, evo, evp, fillL, addrOf, intOf?, lk_put, lk_none, lk_cons, lk_nil, keep_nil, keep_cons, Op1_some, Option.map_some, Option.bind_some, reduceIte, Nat.reduceEqDiff, binV_lss, binV_leq, binV_gtr, binV_geq, binV_eql, binV_neq, binV_add, binV_sub, binV_mul, un_not, CondA_false, CondA_true, Bool.not_true, Bool.not_false, reduceCtorEq, decide_true, decide_false, Nat.add_zero, Nat.zero_add, Nat.reduceAdd, Nat.reduceMul, Bool.bne_false, Bool.bne_true, eqPtr, Option.isNone_some, Option.isNone_none, List.getElem?_cons_zero, List.getElem?_cons_succ, Option.isSome_none, Option.isSome_some , hload, hstore, List.length_cons, List.length_nil, Nat.reduceAdd, Nat.reduceLeDiff, decide_true, List.all_cons, List.all_nil, one, Bool.and_true, Bool.true_and, Bool.and_self, splice, List.set_cons_zero, List.set_cons_succ, List.getElem?_cons_zero, List.getElem?_cons_succ, vc_int, vc_slice, vc_str, vc_bool, vc_int', vc_slice', vc_str', vc_bool', List.length_set, List.length_append, Nat.lt_irrefl, Nat.lt_add_one, and_self, true_and, and_true, lenV, cellsOfSlice, Nat.le_refl, if_true , hp, RS.x_err, h1, xget_spec h ho (fun hh => absurd hh h1), field_err h1]
    all_goals (first | rfl | exact ⟨rfl, rfl⟩ | exact ⟨rfl, trivial⟩ | exact ⟨trivial, trivial⟩ | exact ⟨trivial, rfl⟩ | trivial)

theorem xflag_spec {H : Heap} {p : Nat} {r : RS} (h : RSt H p r.x) (ho : r.Ok) :
    AC tbl 31 [.pointer (some ⟨p, 0, none⟩)] H = some (.bool r.flag.1, setR H p r.flag.2.x) := by
  apply AC_eq
  apply AC_wp (F := F31) rfl (by simp [F31]) (.inl rfl)
  have hg := xget_spec (w := 1) h ho (fun _ => by omega)
  have e1 : decide ((((r.field true 1).1 : Nat) : Int) = 1) = decide ((r.field true 1).1 = 1) := by simp only [decide_eq_decide]; omega
  simp only [F31, ↓RW_seq, ↓AW_ret, ↓AW_skip, ↓AW_exit, ↓AW_block, ↓RW_cond, ↓RW_reg, ↓RW_regd, ↓RO_op, ↓RO_t, ↓RO_f, ↓RO_nt, ↓RO_nf, ↓RO_u, ↓AO_nil, ↓RD_op, ↓RD_t, ↓RD_f, ↓RD_nt, ↓RD_fe, ↓RD_nte, ↓RD_nf, ↓RD_u, ↓AOD_nil, CDops_eff, CDops_no, CDops_1, CDops_2, Again_nil, Again_cons, Same1_int, Same1_bool, Same1_str, Same1_ptr, Same1_slice, Same1_nil, CSeq_ap, CReg_ap, COps_ap, Then_normal, Then_ret, Then_exit, InBlock_normal, InBlock_ret, InBlock_self, InBlock_exit, Ends_ret, Ends_normal, ares, tup, finO_some, fin_same, fin_false, argsE, dval, aop, ev, evs, evo, evp, fillL, addrOf, intOf?, lk_put, lk_none, lk_cons, lk_nil, keep_nil, keep_cons, Op1_some, Option.map_some, Option.bind_some, reduceIte, Nat.reduceEqDiff, binV_lss, binV_leq, binV_gtr, binV_geq, binV_eql, binV_neq, binV_add, binV_sub, binV_mul, un_not, CondA_false, CondA_true, Bool.not_true, Bool.not_false, reduceCtorEq, decide_true, decide_false, Nat.add_zero, Nat.zero_add, Nat.reduceAdd, Nat.reduceMul, Bool.bne_false, Bool.bne_true, eqPtr, Option.isNone_some, Option.isNone_none, List.getElem?_cons_zero, List.getElem?_cons_succ, Option.isSome_none, Option.isSome_some , hg, e1, RS.flag]
  all_goals (first | rfl | exact ⟨rfl, rfl⟩ | exact ⟨rfl, trivial⟩ | exact ⟨trivial, trivial⟩ | exact ⟨trivial, rfl⟩ | trivial)

theorem xsigned_spec {H : Heap} {p : Nat} {r : RS} {w : Int} (h : RSt H p r.x) (ho : r.Ok) :
    AC tbl 30 [.pointer (some ⟨p, 0, none⟩), .int .i64 w] H = some (.int .i64 (r.signed w).1, setR H p (r.signed w).2.x) := by
  apply AC_eq
  apply AC_wp (F := F30) rfl (by simp [F30]) (.inl rfl)
  have hp := cells_get h
  have hpl := h.lt
  by_cases h1 : r.err = 0
  · by_cases h2 : 2 ≤ w ∧ w ≤ 63
    · have hd : decide (2 ≤ w ∧ w ≤ 63) = true := by simpa using h2
      have e1 : ¬ w < 2 := by omega
      have e2 : ¬ 63 < w := by omega
      have hg := xget_spec (w := w) h ho (fun _ => by omega)
      have hsg : r.signed w = (if (r.field true w).2.err = 0 ∧ 2 ^ (w.toNat - 1) ≤ (r.field true w).1 then ((r.field true w).1 : Int) - 2 ^ w.toNat else ((r.field true w).1 : Int), (r.field true w).2) := by unfold RS.signed; rw [hd]
      rw [hsg]
      have he0 := @field_err0 r true w
      have hval : ∀ m : Nat, w = ((m + 1 : Nat) : Int) → (r.field true w).1 < 2 ^ (m + 1) := by
        intro m hm
        by_cases he : (r.field true w).2.err = 0
        · obtain ⟨_, _, h3, _⟩ := he0 he
          rw [h3, hm]; exact valOf_lt _ _ _
        · unfold RS.field at he ⊢
          rw [if_neg (by simpa using h1), if_neg (by simp)] at he ⊢
          split at he
          · rename_i c; rw [if_pos c]; exact Nat.two_pow_pos _
          · exact absurd h1 he
      generalize hx : r.field true w = x at *
      obtain ⟨n, r'⟩ := x
      simp only at hval ⊢ he0 hg
      have hst : hget (setR H p r'.x) p = some ⟨true, [.string r'.x.s, .int .i64 (r'.x.at_ : Int), .int .i64 r'.x.err]⟩ := setR_st hpl _
      by_cases h3 : r'.err = 0
      · obtain ⟨m, rfl⟩ : ∃ m : Nat, w = ((m + 1 : Nat) : Int) := ⟨(w - 1).toNat, by omega⟩
        have hv := hval m rfl
        have et : (((m + 1 : Nat) : Int)).toNat = m + 1 := by omega
        have w1 : IntKind.i64.wrap (((m + 1 : Nat) : Int) - 1) = (m : Int) := by rw [wrap_i64 (by omega) (by omega)]; omega
        have hsh := shl_int 1 m (.inl rfl) (by omega)
        rw [Int.one_mul] at hsh
        have p1 : (2 : Nat) ^ (m + 1) = 2 * 2 ^ m := by rw [Nat.pow_succ]; omega
        have p2 : (2 : Nat) ^ m ≤ 2 ^ 62 := Nat.pow_le_pow_right (by omega) (by omega)
        have p3 : (2 : Nat) ^ 62 = 4611686018427387904 := by decide
        have p4 : (2 : Int) ^ m = ((2 ^ m : Nat) : Int) := pow_cast m
        have p5 : (2 : Int) ^ (m + 1) = ((2 ^ (m + 1) : Nat) : Int) := pow_cast (m + 1)
        rw [et, Nat.add_sub_cancel]
        by_cases h4 : 2 ^ m ≤ n
        · have c1 : (2 : Int) ^ m ≤ (n : Int) := by omega
          have w2 : IntKind.i64.wrap ((n : Int) - 2 ^ m) = (n : Int) - 2 ^ m := wrap_i64 (by omega) (by omega)
          have w3 : IntKind.i64.wrap ((n : Int) - 2 ^ m - 2 ^ m) = (n : Int) - 2 ^ (m + 1) := by rw [wrap_i64 (by omega) (by omega)]; omega
          simp only [F30, ↓RW_seq, ↓AW_ret, ↓AW_skip, ↓AW_exit, ↓AW_block, ↓RW_cond, ↓RW_reg, ↓RW_regd, ↓RO_op, ↓RO_t, ↓RO_f, ↓RO_nt, ↓RO_nf, ↓RO_u, ↓AO_nil, ↓RD_op, ↓RD_t, ↓RD_f, ↓RD_nt, ↓RD_fe, ↓RD_nte, ↓RD_nf, ↓RD_u, ↓AOD_nil, CDops_eff, CDops_no, CDops_1, CDops_2, Again_nil, Again_cons, Same1_int, Same1_bool, Same1_str, Same1_ptr, Same1_slice, Same1_nil, CSeq_ap, CReg_ap, COps_ap, Then_normal, Then_ret, Then_exit, InBlock_normal, InBlock_ret, InBlock_self, InBlock_exit, Ends_ret, Ends_normal, ares, tup, finO_some, fin_same, fin_false, argsE, dval, aop, ev, evs, evo, evp, fillL, addrOf, intOf?, lk_put, lk_none, lk_cons, lk_nil, keep_nil, keep_cons, Op1_some, Option.map_some, Option.bind_some, reduceIte, Nat.reduceEqDiff, binV_lss, binV_leq, binV_gtr, binV_geq, binV_eql, binV_neq, binV_add, binV_sub, binV_mul, un_not, CondA_false, CondA_true, Bool.not_true, Bool.not_false, reduceCtorEq, decide_true, decide_false, Nat.add_zero, Nat.zero_add, Nat.reduceAdd, Nat.reduceMul, Bool.bne_false, Bool.bne_true, eqPtr, Option.isNone_some, Option.isNone_none, List.getElem?_cons_zero, List.getElem?_cons_succ, Option.isSome_none, Option.isSome_some , hload, hstore, List.length_cons, List.length_nil, Nat.reduceAdd, Nat.reduceLeDiff, decide_true, List.all_cons, List.all_nil, one, Bool.and_true, Bool.true_and, Bool.and_self, splice, List.set_cons_zero, List.set_cons_succ, List.getElem?_cons_zero, List.getElem?_cons_succ, vc_int, vc_slice, vc_str, vc_bool, vc_int', vc_slice', vc_str', vc_bool', List.length_set, List.length_append, Nat.lt_irrefl, Nat.lt_add_one, and_self, true_and, and_true, lenV, cellsOfSlice, Nat.le_refl, if_true , hp, RS.x_err, h1, e1, e2, hg, hst, h3, w1, hsh, c1, w2, w3, h4, and_self]
        · have c1 : ¬ (2 : Int) ^ m ≤ (n : Int) := by omega
          simp only [F30, ↓RW_seq, ↓AW_ret, ↓AW_skip, ↓AW_exit, ↓AW_block, ↓RW_cond, ↓RW_reg, ↓RW_regd, ↓RO_op, ↓RO_t, ↓RO_f, ↓RO_nt, ↓RO_nf, ↓RO_u, ↓AO_nil, ↓RD_op, ↓RD_t, ↓RD_f, ↓RD_nt, ↓RD_fe, ↓RD_nte, ↓RD_nf, ↓RD_u, ↓AOD_nil, CDops_eff, CDops_no, CDops_1, CDops_2, Again_nil, Again_cons, Same1_int, Same1_bool, Same1_str, Same1_ptr, Same1_slice, Same1_nil, CSeq_ap, CReg_ap, COps_ap, Then_normal, Then_ret, Then_exit, InBlock_normal, InBlock_ret, InBlock_self, InBlock_exit, Ends_ret, Ends_normal, ares, tup, finO_some, fin_same, fin_false, argsE, dval, aop, ev, evs, evo, evp, fillL, addrOf, intOf?, lk_put, lk_none, lk_cons, lk_nil, keep_nil, keep_cons, Op1_some, Option.map_some, Option.bind_some, reduceIte, Nat.reduceEqDiff, binV_lss, binV_leq, binV_gtr, binV_geq, binV_eql, binV_neq, binV_add, binV_sub, binV_mul, un_not, CondA_false, CondA_true, Bool.not_true, Bool.not_false, reduceCtorEq, decide_true, decide_false, Nat.add_zero, Nat.zero_add, Nat.reduceAdd, Nat.reduceMul, Bool.bne_false, Bool.bne_true, eqPtr, Option.isNone_some, Option.isNone_none, List.getElem?_cons_zero, List.getElem?_cons_succ, Option.isSome_none, Option.isSome_some , hload, hstore, List.length_cons, List.length_nil, Nat.reduceAdd, Nat.reduceLeDiff, decide_true, List.all_cons, List.all_nil, one, Bool.and_true, Bool.true_and, Bool.and_self, splice, List.set_cons_zero, List.set_cons_succ, List.getElem?_cons_zero, List.getElem?_cons_succ, vc_int, vc_slice, vc_str, vc_bool, vc_int', vc_slice', vc_str', vc_bool', List.length_set, List.length_append, Nat.lt_irrefl, Nat.lt_add_one, and_self, true_and, and_true, lenV, cellsOfSlice, Nat.le_refl, if_true , hp, RS.x_err, h1, e1, e2, hg, hst, h3, w1, hsh, c1, h4, and_false, and_self, if_false]
      · simp only [F30, ↓RW_seq, ↓AW_ret, ↓AW_skip, ↓AW_exit, ↓AW_block, ↓RW_cond, ↓RW_reg, ↓RW_regd, ↓RO_op, ↓RO_t, ↓RO_f, ↓RO_nt, ↓RO_nf, ↓RO_u, ↓AO_nil, ↓RD_op, ↓RD_t, ↓RD_f, ↓RD_nt, ↓RD_fe, ↓RD_nte, ↓RD_nf, ↓RD_u, ↓AOD_nil, CDops_eff, CDops_no, CDops_1, CDops_2, Again_nil, Again_cons, Same1_int, Same1_bool, Same1_str, Same1_ptr, Same1_slice, Same1_nil, CSeq_ap, CReg_ap, COps_ap, Then_normal, Then_ret, Then_exit, InBlock_normal, InBlock_ret, InBlock_self, InBlock_exit, Ends_ret, Ends_normal, ares, tup, finO_some, fin_same, fin_false, argsE, dval, aop, ev, evs, evo, evp, fillL, addrOf, intOf?, lk_put, lk_none, lk_cons, lk_nil, keep_nil, keep_cons, Op1_some, Option.map_some, Option.bind_some, reduceIte, Nat.reduceEqDiff, binV_lss, binV_leq, binV_gtr, binV_geq, binV_eql, binV_neq, binV_add, binV_sub, binV_mul, un_not, CondA_false, CondA_true, Bool.not_true, Bool.not_false, reduceCtorEq, decide_true, decide_false, Nat.add_zero, Nat.zero_add, Nat.reduceAdd, Nat.reduceMul, Bool.bne_false, Bool.bne_true, eqPtr, Option.isNone_some, Option.isNone_none, List.getElem?_cons_zero, List.getElem?_cons_succ, Option.isSome_none, Option.isSome_some , hload, hstore, List.length_cons, List.length_nil, Nat.reduceAdd, Nat.reduceLeDiff, decide_true, List.all_cons, List.all_nil, one, Bool.and_true, Bool.true_and, Bool.and_self, splice, List.set_cons_zero, List.set_cons_succ, List.getElem?_cons_zero, List.getElem?_cons_succ, vc_int, vc_slice, vc_str, vc_bool, vc_int', vc_slice', vc_str', vc_bool', List.length_set, List.length_append, Nat.lt_irrefl, Nat.lt_add_one, and_self, true_and, and_true, lenV, cellsOfSlice, Nat.le_refl, if_true , hp, RS.x_err, h1, e1, e2, hg, hst, h3, false_and, if_false, and_self]
    · have hd : decide (2 ≤ w ∧ w ≤ 63) = false := by simpa using h2
      have hg := @xget_spec (setR H p ⟨⟨#[]⟩, 0, 1⟩) p { r with err := 1 } w (by rw [x_fail (by omega)]; exact setR_st hpl _) ⟨ho.at_le, ho.size⟩ (fun hh => by simp at hh)
      rw [field_err (by simp)] at hg
      simp only [x_fail (by omega : (1 : Int) ≠ 0), setR_setR] at hg
      have hsg : r.signed w = (0, { r with err := 1 }) := by unfold RS.signed; rw [hd, field_bad h1]; simp
      have hst : hget (setR H p ⟨⟨#[]⟩, 0, 1⟩) p = some ⟨true, [.string ⟨#[]⟩, .int .i64 ((0 : Nat) : Int), .int .i64 1]⟩ := setR_st hpl _
      have n1 : ¬ (1 : Int) = 0 := by omega
      rw [hsg]
      by_cases e1 : w < 2
      · simp only [F30, ↓RW_seq, ↓AW_ret, ↓AW_skip, ↓AW_exit, ↓AW_block, ↓RW_cond, ↓RW_reg, ↓RW_regd, ↓RO_op, ↓RO_t, ↓RO_f, ↓RO_nt, ↓RO_nf, ↓RO_u, ↓AO_nil, ↓RD_op, ↓RD_t, ↓RD_f, ↓RD_nt, ↓RD_fe, ↓RD_nte, ↓RD_nf, ↓RD_u, ↓AOD_nil, CDops_eff, CDops_no, CDops_1, CDops_2, Again_nil, Again_cons, Same1_int, Same1_bool, Same1_str, Same1_ptr, Same1_slice, Same1_nil, CSeq_ap, CReg_ap, COps_ap, Then_normal, Then_ret, Then_exit, InBlock_normal, InBlock_ret, InBlock_self, InBlock_exit, Ends_ret, Ends_normal, ares, tup, finO_some, fin_same, fin_false, argsE, dval, aop, ev, evs, evo, evp, fillL, addrOf, intOf?, lk_put, lk_none, lk_cons, lk_nil, keep_nil, keep_cons, Op1_some, Option.map_some, Option.bind_some, reduceIte, Nat.reduceEqDiff, binV_lss, binV_leq, binV_gtr, binV_geq, binV_eql, binV_neq, binV_add, binV_sub, binV_mul, un_not, CondA_false, CondA_true, Bool.not_true, Bool.not_false, reduceCtorEq, decide_true, decide_false, Nat.add_zero, Nat.zero_add, Nat.reduceAdd, Nat.reduceMul, Bool.bne_false, Bool.bne_true, eqPtr, Option.isNone_some, Option.isNone_none, List.getElem?_cons_zero, List.getElem?_cons_succ, Option.isSome_none, Option.isSome_some , hload, hstore, List.length_cons, List.length_nil, Nat.reduceAdd, Nat.reduceLeDiff, decide_true, List.all_cons, List.all_nil, one, Bool.and_true, Bool.true_and, Bool.and_self, splice, List.set_cons_zero, List.set_cons_succ, List.getElem?_cons_zero, List.getElem?_cons_succ, vc_int, vc_slice, vc_str, vc_bool, vc_int', vc_slice', vc_str', vc_bool', List.length_set, List.length_append, Nat.lt_irrefl, Nat.lt_add_one, and_self, true_and, and_true, lenV, cellsOfSlice, Nat.le_refl, if_true , hp, RS.x_err, h1, e1, xfail_spec h, hg, hst, n1, x_fail (by omega : (1 : Int) ≠ 0)]
        all_goals (first | rfl | exact ⟨rfl, rfl⟩ | exact ⟨rfl, trivial⟩ | exact ⟨trivial, trivial⟩ | exact ⟨trivial, rfl⟩ | trivial)
      · have e2 : 63 < w := by omega
        simp only [F30, ↓RW_seq, ↓AW_ret, ↓AW_skip, ↓AW_exit, ↓AW_block, ↓RW_cond, ↓RW_reg, ↓RW_regd, ↓RO_op, ↓RO_t, ↓RO_f, ↓RO_nt, ↓RO_nf, ↓RO_u, ↓AO_nil, ↓RD_op, ↓RD_t, ↓RD_f, ↓RD_nt, ↓RD_fe, ↓RD_nte, ↓RD_nf, ↓RD_u, ↓AOD_nil, CDops_eff, CDops_no, CDops_1, CDops_2, Again_nil, Again_cons, Same1_int, Same1_bool, Same1_str, Same1_ptr, Same1_slice, Same1_nil, CSeq_ap, CReg_ap, COps_ap, Then_normal, Then_ret, Then_exit, InBlock_normal, InBlock_ret, InBlock_self, InBlock_exit, Ends_ret, Ends_normal, ares, tup, finO_some, fin_same, fin_false, argsE, dval, aop, ev, evs, evo, evp, fillL, addrOf, intOf?, lk_put, lk_none, lk_cons, lk_nil, keep_nil, keep_cons, Op1_some, Option.map_some, Option.bind_some, reduceIte, Nat.reduceEqDiff, binV_lss, binV_leq, binV_gtr, binV_geq, binV_eql, binV_neq, binV_add, binV_sub, binV_mul, un_not, CondA_false, CondA_true, Bool.not_true, Bool.not_false, reduceCtorEq, decide_true, decide_false, Nat.add_zero, Nat.zero_add, Nat.reduceAdd, Nat.reduceMul, Bool.bne_false, Bool.bne_true, eqPtr, Option.isNone_some, Option.isNone_none, List.getElem?_cons_zero, List.getElem?_cons_succ, Option.isSome_none, Option.isSome_some , hload, hstore, List.length_cons, List.length_nil, Nat.reduceAdd, Nat.reduceLeDiff, decide_true, List.all_cons, List.all_nil, one, Bool.and_true, Bool.true_and, Bool.and_self, splice, List.set_cons_zero, List.set_cons_succ, List.getElem?_cons_zero, List.getElem?_cons_succ, vc_int, vc_slice, vc_str, vc_bool, vc_int', vc_slice', vc_str', vc_bool', List.length_set, List.length_append, Nat.lt_irrefl, Nat.lt_add_one, and_self, true_and, and_true, lenV, cellsOfSlice, Nat.le_refl, if_true , hp, RS.x_err, h1, e1, e2, xfail_spec h, hg, hst, n1, x_fail (by omega : (1 : Int) ≠ 0)]
        all_goals (first | rfl | exact ⟨rfl, rfl⟩ | exact ⟨rfl, trivial⟩ | exact ⟨trivial, trivial⟩ | exact ⟨trivial, rfl⟩ | trivial)
  · have hg := xget_spec (w := w) h ho (fun hh => absurd hh h1)
    rw [field_err h1] at hg
    have hsg : r.signed w = (0, r) := by unfold RS.signed; rw [field_err h1]; simp
    rw [hsg]
    have hst : hget (setR H p r.x) p = some ⟨true, [.string r.x.s, .int .i64 (r.x.at_ : Int), .int .i64 r.x.err]⟩ := setR_st hpl _
    simp only [F30, ↓RW_seq, ↓AW_ret, ↓AW_skip, ↓AW_exit, ↓AW_block, ↓RW_cond, ↓RW_reg, ↓RW_regd, ↓RO_op, ↓RO_t, ↓RO_f, ↓RO_nt, ↓RO_nf, ↓RO_u, ↓AO_nil, ↓RD_op, ↓RD_t, ↓RD_f, ↓RD_nt, ↓RD_fe, ↓RD_nte, ↓RD_nf, ↓RD_u, ↓AOD_nil, CDops_eff, CDops_no, CDops_1, CDops_2, Again_nil, Again_cons, Same1_int, Same1_bool, Same1_str, Same1_ptr, Same1_slice, Same1_nil, CSeq_ap, CReg_ap, COps_ap, Then_normal, Then_ret, Then_exit, InBlock_normal, InBlock_ret, InBlock_self, InBlock_exit, Ends_ret, Ends_normal, ares, tup, finO_some, fin_same, fin_false, argsE, dval, aop, ev, evs, evo, evp, fillL, addrOf, intOf?, lk_put, lk_none, lk_cons, lk_nil, keep_nil, keep_cons, Op1_some, Option.map_some, Option.bind_some, reduceIte, Nat.reduceEqDiff, binV_lss, binV_leq, binV_gtr, binV_geq, binV_eql, binV_neq, binV_add, binV_sub, binV_mul, un_not, CondA_false, CondA_true, Bool.not_true, Bool.not_false, reduceCtorEq, decide_true, decide_false, Nat.add_zero, Nat.zero_add, Nat.reduceAdd, Nat.reduceMul, Bool.bne_false, Bool.bne_true, eqPtr, Option.isNone_some, Option.isNone_none, List.getElem?_cons_zero, List.getElem?_cons_succ, Option.isSome_none, Option.isSome_some , hload, hstore, List.length_cons, List.length_nil, Nat.reduceAdd, Nat.reduceLeDiff, decide_true, List.all_cons, List.all_nil, one, Bool.and_true, Bool.true_and, Bool.and_self, splice, List.set_cons_zero, List.set_cons_succ, List.getElem?_cons_zero, List.getElem?_cons_succ, vc_int, vc_slice, vc_str, vc_bool, vc_int', vc_slice', vc_str', vc_bool', List.length_set, List.length_append, Nat.lt_irrefl, Nat.lt_add_one, and_self, true_and, and_true, lenV, cellsOfSlice, Nat.le_refl, if_true , hp, RS.x_err, h1, hg, hst]
    all_goals (first | rfl | exact ⟨rfl, rfl⟩ | exact ⟨rfl, trivial⟩ | exact ⟨trivial, trivial⟩ | exact ⟨trivial, rfl⟩ | trivial)

end Go.Proofs.Ytlbhbjaimcinbaa.AI

/- Fields that are written are read, and those that are read are written. -/
set_option linter.unusedSimpArgs false
namespace Go.Proofs.Ytlbhbjaimcinbaa.AI
open Go

theorem wfield_inv {s : WS} {right fits : Bool} {w n : Int} (h0 : s.err = 0) (h : (s.field right fits w n).err = 0) :
    right = true ∧ fits = true ∧ (s.bs.length : Int) + w ≤ 524288 ∧ s.field right fits w n = ⟨s.bs ++ bitsOf w.toNat (u64 n), 0⟩ := by
  unfold WS.field at h ⊢
  rw [if_neg (by simpa using h0)] at h ⊢
  cases right with
  | false => simp at h
  | true =>
    cases fits with
    | false => simp at h
    | true =>
      rw [if_neg (by simp), if_neg (by simp)] at h ⊢
      split at h
      · simp at h
      · rename_i h1
        rw [if_neg h1]
        exact ⟨rfl, rfl, by omega, by rw [h0]⟩
theorem wtext_inv {s : WS} {most : Int} {t : ByteArray} (h0 : s.err = 0) (h : (s.text most t).err = 0) :
    lim most = true ∧ (t.size : Int) ≤ most ∧ (s.bs.length : Int) + wd most + 8 * t.size ≤ 524288 ∧ s.text most t = ⟨s.bs ++ (bitsOf (wd most) t.size ++ textBits t), 0⟩ := by
  unfold WS.text at h ⊢
  rw [if_neg (by simpa using h0)] at h ⊢
  cases hl : lim most with
  | false => rw [hl] at h; simp at h
  | true =>
    rw [hl, if_neg (by simp)] at h
    rw [if_neg (by simp)]
    split at h
    · simp at h
    · rename_i h1
      rw [if_neg h1]
      exact ⟨rfl, by omega, by omega, by rw [h0, List.append_assoc]⟩

/-- A field that is written without an error lays some bits behind the others. -/
theorem write_ext {s : WS} {f : Fld} (h : (s.write f).err = 0) : s.err = 0 ∧ ∃ x, (s.write f).bs = s.bs ++ x := by
  have h0 : s.err = 0 := by
    refine Classical.byContradiction fun h1 => ?_
    have : s.write f = s := by
      unfold WS.write WS.unsigned WS.signed WS.flag WS.field WS.text
      simp [h1]
    rw [this] at h
    exact h1 h
  refine ⟨h0, ?_⟩
  unfold WS.write at h ⊢
  split
  · rename_i c; rw [if_pos c] at h; exact ⟨_, congrArg WS.bs (wfield_inv h0 h).2.2.2⟩
  · rename_i c; rw [if_neg c] at h
    split
    · rename_i c; rw [if_pos c] at h; exact ⟨_, congrArg WS.bs (wfield_inv h0 h).2.2.2⟩
    · rename_i c; rw [if_neg c] at h
      split
      · rename_i c; rw [if_pos c] at h; exact ⟨_, congrArg WS.bs (wfield_inv h0 h).2.2.2⟩
      · rename_i c; rw [if_neg c] at h
        split
        · rename_i c; rw [if_pos c] at h; exact ⟨_, congrArg WS.bs (wtext_inv h0 h).2.2.2⟩
        · exact ⟨[], by simp⟩

theorem IsStr.size {bs : List Bool} {s : ByteArray} (h : IsStr bs s) : s.size = (bs.length + 7) / 8 := by
  obtain ⟨d, _, hd, rfl⟩ := h
  rw [strOf_size, hd]
theorem seg_mid {pre mid tail : List Bool} {s : ByteArray} (h : IsStr (pre ++ mid ++ tail) s) : seg s pre.length mid.length = mid := by
  have hsz := h.size
  simp only [List.length_append] at hsz
  apply List.ext_getElem?
  intro i
  by_cases hi : i < mid.length
  · rw [seg_get hi, sbit_of h (by omega), List.getD_eq_getElem?_getD, List.getElem?_append_left (by simp; omega), List.getElem?_append_right (by omega), Nat.add_sub_cancel_left, List.getElem?_eq_getElem hi]
    rfl
  · rw [List.getElem?_eq_none (by rw [seg_length]; omega), List.getElem?_eq_none (by omega)]
theorem seg_two {s : ByteArray} {a n m : Nat} {x y : List Bool} (h : seg s a (n + m) = x ++ y) (hn : x.length = n) : seg s a n = x ∧ seg s (a + n) m = y := by
  rw [seg_append] at h
  exact List.append_inj h (by rw [seg_length, hn])

/-- A reader's field with enough bits left. -/
theorem rfield_ok {s : ByteArray} {a : Nat} {w : Int} (h0 : 0 ≤ w) (h : a + w.toNat ≤ 8 * s.size) : (⟨s, a, 0⟩ : RS).field true w = (valOf s a w.toNat, ⟨s, a + w.toNat, 0⟩) := by
  unfold RS.field
  rw [if_neg (by simp), if_neg (by simp), if_neg (by simp [RS.left]; omega)]

theorem u64_nat {n : Int} (h0 : 0 ≤ n) (h1 : n < 18446744073709551616) : u64 n = n.toNat := by unfold u64; omega
theorem pow63 {w : Int} (h : w ≤ 63) : (2 : Int) ^ w.toNat ≤ 9223372036854775808 := by
  have : (2 : Nat) ^ w.toNat ≤ 2 ^ 63 := Nat.pow_le_pow_right (by omega) (by omega)
  rw [pow_cast]; omega

/-- What is read where a field was written. -/
theorem write_read {ws : WS} {f : Fld} {s : ByteArray} {tail : List Bool} (h : (ws.write f).err = 0) (hs : IsStr ((ws.write f).bs ++ tail) s) (hk : 0 ≤ f.kind ∧ f.kind ≤ 3) :
    (⟨s, ws.bs.length, 0⟩ : RS).read f = (⟨f.kind, if f.kind = 2 then 0 else f.width, if f.kind = 3 then 0 else if f.kind = 2 then (if f.n ≠ 0 then 1 else 0) else f.n, if f.kind = 3 then f.s else ⟨#[]⟩⟩, ⟨s, (ws.write f).bs.length, 0⟩) := by
  have h0 := (write_ext h).1
  have hsz := hs.size
  simp only [List.length_append] at hsz
  by_cases k0 : f.kind = 0
  · have e : ws.write f = ws.unsigned f.width f.n := by simp [WS.write, k0]
    rw [e] at h hs hsz ⊢
    obtain ⟨r1, r2, r3, r4⟩ := wfield_inv h0 h
    rw [show ws.unsigned f.width f.n = _ from r4] at hs hsz ⊢
    simp only [decide_eq_true_eq] at r1 r2
    have hp := pow63 r1.2
    have hm := seg_mid hs
    rw [bitsOf_length] at hm
    have hv := val_seg hm
    have hn : u64 f.n = f.n.toNat := u64_nat r2.2.1 (by omega)
    have hlt : f.n.toNat < 2 ^ f.width.toNat := by have := r2.2.2; rw [pow_cast] at this; omega
    rw [hn, Nat.mod_eq_of_lt hlt] at hv
    simp only [List.length_append, bitsOf_length] at hsz ⊢
    have hf := rfield_ok (s := s) (a := ws.bs.length) (w := f.width) (by omega) (by omega)
    have hd : decide (1 ≤ f.width ∧ f.width ≤ 63) = true := by simpa using r1
    simp only [RS.read, k0, RS.unsigned, hd, hf, hv]
    simp; omega
  · by_cases k1 : f.kind = 1
    · have e : ws.write f = ws.signed f.width f.n := by simp [WS.write, k1]
      rw [e] at h hs hsz ⊢
      obtain ⟨r1, r2, r3, r4⟩ := wfield_inv h0 h
      rw [show ws.signed f.width f.n = _ from r4] at hs hsz ⊢
      simp only [decide_eq_true_eq] at r1 r2
      have hm := seg_mid hs
      rw [bitsOf_length] at hm
      have hv := val_seg hm
      simp only [List.length_append, bitsOf_length] at hsz ⊢
      have hf := rfield_ok (s := s) (a := ws.bs.length) (w := f.width) (by omega) (by omega)
      obtain ⟨m, hw⟩ : ∃ m : Nat, f.width = ((m + 1 : Nat) : Int) := ⟨(f.width - 1).toNat, by omega⟩
      have hd : decide (2 ≤ f.width ∧ f.width ≤ 63) = true := by simpa using r1
      have hsg : (⟨s, ws.bs.length, 0⟩ : RS).signed f.width = (f.n, ⟨s, ws.bs.length + f.width.toNat, 0⟩) := by
        have hmod := u64_mod f.n (k := m + 1) (by omega)
        have r3' := r2.2
        simp only [hw, Int.toNat_natCast, Nat.add_sub_cancel] at hf hv hd r3' ⊢
        have hb := signed_back r3'.1 r3'.2
        simp only [RS.signed, hd, hf, hv, Int.toNat_natCast, Nat.add_sub_cancel, true_and]
        rw [← hmod] at hb
        have hc : (2 : Int) ^ m ≤ ((u64 f.n % 2 ^ (m + 1) : Nat) : Int) ↔ 2 ^ m ≤ u64 f.n % 2 ^ (m + 1) := by rw [pow_cast]; omega
        by_cases hh : 2 ^ m ≤ u64 f.n % 2 ^ (m + 1)
        · rw [if_pos (hc.2 hh)] at hb; rw [if_pos hh, hb]
        · rw [if_neg (fun x => hh (hc.1 x))] at hb; rw [if_neg hh, hb]
      simp only [RS.read, k1, hsg]
      simp
    · by_cases k2 : f.kind = 2
      · have e : ws.write f = ws.flag (decide (f.n ≠ 0)) := by simp [WS.write, k2]
        rw [e] at h hs hsz ⊢
        obtain ⟨r1, r2, r3, r4⟩ := wfield_inv h0 h
        rw [show ws.flag (decide (f.n ≠ 0)) = _ from r4] at hs hsz ⊢
        have hm := seg_mid hs
        rw [bitsOf_length] at hm
        have hv := val_seg hm
        simp only [List.length_append, bitsOf_length] at hsz ⊢
        have hf := rfield_ok (s := s) (a := ws.bs.length) (w := 1) (by omega) (by simp only [show (1 : Int).toNat = 1 from rfl] at hsz ⊢; omega)
        simp only [show (1 : Int).toNat = 1 from rfl] at hv hf hsz ⊢
        have hfl : (⟨s, ws.bs.length, 0⟩ : RS).flag = (decide (f.n ≠ 0), ⟨s, ws.bs.length + 1, 0⟩) := by
          simp only [RS.flag, hf, hv]
          by_cases hn : f.n = 0
          · simp [hn, u64]
          · simp [hn, u64]
        simp only [RS.read, k2, hfl]
        simp
      · have k3 : f.kind = 3 := by omega
        have e : ws.write f = ws.text f.width f.s := by simp [WS.write, k3]
        rw [e] at h hs hsz ⊢
        obtain ⟨r1, r2, r3, r4⟩ := wtext_inv h0 h
        rw [r4] at hs hsz ⊢
        have hm := seg_mid hs
        rw [List.length_append, bitsOf_length, textBits_length] at hm
        obtain ⟨hm1, hm2⟩ := seg_two hm (bitsOf_length _ _)
        have hv := val_seg hm1
        simp only [List.length_append, bitsOf_length, textBits_length] at hsz ⊢
        have hf := rfield_ok (s := s) (a := ws.bs.length) (w := (wd f.width : Int)) (by omega) (by simp only [Int.toNat_natCast]; omega)
        simp only [Int.toNat_natCast] at hf
        have hl : 1 ≤ f.width ∧ f.width ≤ 4095 := by simpa [lim] using r1
        have hlt : f.s.size < 2 ^ wd f.width := by
          have h2 := @blen_le f.width.toNat (wd f.width)
          have h3 : f.width.toNat < 2 ^ wd f.width := h2.1 (by unfold wd; rw [if_neg (by omega)]; omega)
          omega
        rw [Nat.mod_eq_of_lt hlt] at hv
        have ht := read_text hm2
        have hte : (⟨s, ws.bs.length, 0⟩ : RS).text f.width = (f.s, ⟨s, ws.bs.length + wd f.width + 8 * f.s.size, 0⟩) := by
          simp only [RS.text, r1, hf, hv]
          rw [if_neg (by simp), if_neg (by omega), if_neg (by simp [RS.left]; omega), ht]
        simp only [RS.read, k3, hte]
        simp [Nat.add_assoc]

end Go.Proofs.Ytlbhbjaimcinbaa.AI

/- Fields that are read are written with the same bits. -/
set_option linter.unusedSimpArgs false
namespace Go.Proofs.Ytlbhbjaimcinbaa.AI
open Go

theorem wfield_ok {bs : List Bool} {right fits : Bool} {w n : Int} (h1 : right = true) (h2 : fits = true) (h : (bs.length : Int) + w ≤ 524288) : (⟨bs, 0⟩ : WS).field right fits w n = ⟨bs ++ bitsOf w.toNat (u64 n), 0⟩ := by
  subst h1 h2
  unfold WS.field
  rw [if_neg (by simp), if_neg (by simp), if_neg (by simp), if_neg (by simp only; omega)]

theorem rtext_err0 {r : RS} {most : Int} (h : (r.text most).2.err = 0) : lim most = true ∧ r.err = 0 ∧ r.at_ + wd most + 8 * valOf r.s r.at_ (wd most) ≤ 8 * r.s.size ∧ ((valOf r.s r.at_ (wd most) : Nat) : Int) ≤ most ∧
    r.text most = (strOf (readL r.s (r.at_ + wd most) (valOf r.s r.at_ (wd most))), { r with at_ := r.at_ + wd most + 8 * valOf r.s r.at_ (wd most) }) := by
  unfold RS.text at h ⊢
  simp only at h ⊢
  split at h
  · rename_i h1; exact absurd h h1
  · rename_i h1
    obtain ⟨r1, r2, r3, r4⟩ := field_err0 (r := r) (right := lim most) (w := (wd most : Int)) (by simpa using h1)
    rw [r3] at h h1 ⊢
    simp only [Int.toNat_natCast] at h h1 ⊢
    rw [if_neg h1]
    split at h
    · simp at h
    · rename_i h2
      rw [if_neg h2]
      split at h
      · simp at h
      · rename_i h3
        rw [if_neg h3]
        simp only [RS.left, r2, if_true] at h3
        exact ⟨r1, r2, by omega, by omega, rfl⟩

theorem seg_pre (s : ByteArray) (a n : Nat) : seg s 0 a ++ seg s a n = seg s 0 (a + n) := by
  rw [seg_append, Nat.zero_add]

/-- What was read so far is written once more. -/
theorem read_write {r : RS} {f : Fld} (hs : r.s.size ≤ 300) (ho : r.Ok) (h : (r.read f).2.err = 0) :
    r.err = 0 ∧ (r.read f).2.s = r.s ∧ (⟨seg r.s 0 r.at_, 0⟩ : WS).write (r.read f).1 = ⟨seg r.s 0 (r.read f).2.at_, 0⟩ := by
  have hat := ho.at_le
  have hl : (seg r.s 0 r.at_).length = r.at_ := seg_length _ _ _
  by_cases k0 : f.kind = 0
  · have e : r.read f = ({ f with n := (r.unsigned f.width).1, s := ⟨#[]⟩ }, (r.unsigned f.width).2) := by simp [RS.read, k0]
    rw [e] at h ⊢
    obtain ⟨r1, r2, r3, r4⟩ := field_err0 (r := r) (right := decide (1 ≤ f.width ∧ f.width ≤ 63)) (w := f.width) h
    have hu : r.unsigned f.width = (((valOf r.s r.at_ f.width.toNat : Nat) : Int), { r with at_ := r.at_ + f.width.toNat }) := by simp only [RS.unsigned, r3]
    rw [hu]
    simp only [decide_eq_true_eq] at r1
    have hv := valOf_lt r.s r.at_ f.width.toNat
    have hp := pow63 r1.2
    rw [pow_cast] at hp
    refine ⟨r2, rfl, ?_⟩
    simp only [WS.write, k0, if_true]
    unfold WS.unsigned
    rw [wfield_ok (by simpa using r1) (by simp only [decide_eq_true_eq]; refine ⟨r1, by omega, ?_⟩; rw [pow_cast]; omega) (by rw [hl]; omega), u64_nat (by omega) (by omega)]
    simp only [Int.toNat_natCast, bits_val, seg_pre]
  · by_cases k1 : f.kind = 1
    · have e : r.read f = ({ f with n := (r.signed f.width).1, s := ⟨#[]⟩ }, (r.signed f.width).2) := by simp [RS.read, k1]
      rw [e] at h ⊢
      obtain ⟨r1, r2, r3, r4⟩ := field_err0 (r := r) (right := decide (2 ≤ f.width ∧ f.width ≤ 63)) (w := f.width) h
      simp only [decide_eq_true_eq] at r1
      obtain ⟨m, hw⟩ : ∃ m : Nat, f.width = ((m + 1 : Nat) : Int) := ⟨(f.width - 1).toNat, by omega⟩
      have hv := valOf_lt r.s r.at_ (m + 1)
      have hp : (2 : Nat) ^ (m + 1) = 2 * 2 ^ m := by rw [Nat.pow_succ]; omega
      have hm2 : (2 : Nat) ^ (m + 1) ≤ 2 ^ 63 := Nat.pow_le_pow_right (by omega) (by omega)
      have hm0 := Nat.two_pow_pos m
      have h63 : (2 : Nat) ^ 63 = 9223372036854775808 := by decide
      have hu : r.signed f.width = (if 2 ^ m ≤ valOf r.s r.at_ (m + 1) then ((valOf r.s r.at_ (m + 1) : Nat) : Int) - 2 ^ (m + 1) else ((valOf r.s r.at_ (m + 1) : Nat) : Int), { r with at_ := r.at_ + (m + 1) }) := by
        simp only [hw, Int.toNat_natCast] at r3
        simp only [RS.signed, hw, r3, r2, true_and, Int.toNat_natCast, Nat.add_sub_cancel]
      rw [hu]
      refine ⟨r2, rfl, ?_⟩
      simp only [WS.write, k1, if_true]
      rw [if_neg (by omega)]
      unfold WS.signed
      have hmod : (u64 (if 2 ^ m ≤ valOf r.s r.at_ (m + 1) then ((valOf r.s r.at_ (m + 1) : Nat) : Int) - 2 ^ (m + 1) else ((valOf r.s r.at_ (m + 1) : Nat) : Int))) % 2 ^ (m + 1) = valOf r.s r.at_ (m + 1) % 2 ^ (m + 1) := by
        have h1 := u64_mod (if 2 ^ m ≤ valOf r.s r.at_ (m + 1) then ((valOf r.s r.at_ (m + 1) : Nat) : Int) - 2 ^ (m + 1) else ((valOf r.s r.at_ (m + 1) : Nat) : Int)) (k := m + 1) (by omega)
        have h2 : (if 2 ^ m ≤ valOf r.s r.at_ (m + 1) then ((valOf r.s r.at_ (m + 1) : Nat) : Int) - 2 ^ (m + 1) else ((valOf r.s r.at_ (m + 1) : Nat) : Int)) % 2 ^ (m + 1) = ((valOf r.s r.at_ (m + 1) : Nat) : Int) % 2 ^ (m + 1) := by
          split
          · rw [Int.sub_emod_right]
          · rfl
        rw [h2] at h1
        rw [pow_cast, ← Int.natCast_emod] at h1
        exact Int.ofNat.inj h1
      have hfit : -2 ^ m ≤ (if 2 ^ m ≤ valOf r.s r.at_ (m + 1) then ((valOf r.s r.at_ (m + 1) : Nat) : Int) - 2 ^ (m + 1) else ((valOf r.s r.at_ (m + 1) : Nat) : Int)) ∧ (if 2 ^ m ≤ valOf r.s r.at_ (m + 1) then ((valOf r.s r.at_ (m + 1) : Nat) : Int) - 2 ^ (m + 1) else ((valOf r.s r.at_ (m + 1) : Nat) : Int)) < 2 ^ m := by
        rw [pow_cast, pow_cast]
        split <;> constructor <;> omega
      rw [hw] at r1 ⊢
      rw [wfield_ok (by simpa using r1) (by simp only [decide_eq_true_eq, Int.toNat_natCast, Nat.add_sub_cancel]; exact ⟨r1, hfit⟩) (by rw [hl]; omega)]
      simp only [Int.toNat_natCast]
      rw [bitsOf_mod _ _ _ hmod, bits_val, seg_pre]
    · by_cases k2 : f.kind = 2
      · have e : r.read f = (⟨f.kind, 0, if r.flag.1 then 1 else 0, ⟨#[]⟩⟩, r.flag.2) := by simp [RS.read, k2]
        rw [e] at h ⊢
        obtain ⟨r1, r2, r3, r4⟩ := field_err0 (r := r) (right := true) (w := 1) h
        have hu : r.flag = (decide (valOf r.s r.at_ 1 = 1), { r with at_ := r.at_ + 1 }) := by simp only [RS.flag, r3]; rfl
        rw [hu]
        refine ⟨r2, rfl, ?_⟩
        have hv := valOf_lt r.s r.at_ 1
        simp only [WS.write, k2]
        rw [if_neg (by omega), if_neg (by omega), if_pos True.intro]
        unfold WS.flag
        rw [wfield_ok rfl rfl (by rw [hl]; omega)]
        have : u64 (if (decide ((if decide (valOf r.s r.at_ 1 = 1) = true then (1 : Int) else 0) ≠ 0)) = true then 1 else 0) = valOf r.s r.at_ 1 := by
          rcases (by omega : valOf r.s r.at_ 1 = 0 ∨ valOf r.s r.at_ 1 = 1) with h | h <;> rw [h] <;> decide
        rw [this]
        have := bits_val r.s r.at_ 1
        simp only [show (1 : Int).toNat = 1 from rfl, this, seg_pre]
      · by_cases k3 : f.kind = 3
        · have e : r.read f = ({ f with n := 0, s := (r.text f.width).1 }, (r.text f.width).2) := by simp [RS.read, k3]
          rw [e] at h ⊢
          obtain ⟨r1, r2, r3, r4, r5⟩ := rtext_err0 h
          rw [r5]
          refine ⟨r2, rfl, ?_⟩
          simp only [WS.write, k3]
          rw [if_neg (by omega), if_neg (by omega), if_neg (by omega), if_pos True.intro]
          unfold WS.text
          simp only [r1, strOf_size, readL_length]
          rw [if_neg (by simp), if_neg (by simp), if_neg (by rw [hl]; omega), bits_val, textBits_read, seg_pre, seg_pre]
        · have e : r.read f = (f, r) := by simp [RS.read, k0, k1, k2, k3]
          rw [e] at h ⊢
          refine ⟨h, rfl, ?_⟩
          simp [WS.write, k0, k1, k2, k3]

theorem valOf_zero (s : ByteArray) (a : Nat) : ∀ w, valOf s a w = 0 → ∀ i, i < w → sbit s (a + i) = false := by
  intro w h i hi
  have := valOf_testBit s a w i hi
  rw [h] at this
  simpa using this.symm

/-- A string whose rest is zeros is the one that its first bits make. -/
theorem isStr_seg {s : ByteArray} {a : Nat} (h1 : a ≤ 8 * s.size) (h2 : 8 * s.size < a + 8) (h3 : valOf s a (8 * s.size - a) = 0) : IsStr (seg s 0 a) s := by
  refine ⟨nums s, ⟨nums_small s, fun j x hx k hk => ?_⟩, by rw [nums_length, seg_length]; omega, (strOf_nums s).symm⟩
  have hj : j < s.size := by have := (List.getElem?_eq_some_iff.1 hx).1; rwa [nums_length] at this
  have hb : sbit s (8 * j + k) = x.testBit (7 - k) := by
    obtain ⟨b, b1, b2⟩ := byte_get s j hj
    have : x = b.toNat := by
      unfold nums at hx
      rw [List.getElem?_map, b2] at hx
      simpa using hx.symm
    unfold sbit
    rw [show (8 * j + k) / 8 = j by omega, show (8 * j + k) % 8 = k by omega, b1, this]
    rfl
  rw [← hb, List.getD_eq_getElem?_getD]
  by_cases hlt : 8 * j + k < a
  · rw [seg_get hlt, Nat.zero_add]; rfl
  · rw [List.getElem?_eq_none (by rw [seg_length]; omega)]
    have := valOf_zero s a _ h3 (8 * j + k - a) (by omega)
    rw [show a + (8 * j + k - a) = 8 * j + k by omega] at this
    rw [this]; rfl

end Go.Proofs.Ytlbhbjaimcinbaa.AI

/- The reference reader's texts and its end. -/
set_option linter.unusedSimpArgs false
namespace Go.Proofs.Ytlbhbjaimcinbaa.AI
open Go

theorem xclose_spec {H : Heap} {p : Nat} {r : RS} (h : RSt H p r.x) (ho : r.Ok) : AC tbl 37 [.pointer (some ⟨p, 0, none⟩)] H = some (.int .i64 r.close, H) := by
  apply AC_eq
  apply AC_wp (F := F37) rfl (by simp [F37]) (.inl rfl)
  have hp := cells_get h
  have hpl := h.lt
  have hat := ho.at_le
  have hsz := ho.size
  by_cases h1 : r.err = 0
  · have hleft := xleft_spec h ho
    rw [RS.x_ok h1] at hp h
    by_cases h2 : 8 ≤ r.left
    · have hc : r.close = 10 := by simp [RS.close, h1, h2]
      simp only [F37, ↓RW_seq, ↓AW_ret, ↓AW_skip, ↓AW_exit, ↓AW_block, ↓RW_cond, ↓RW_reg, ↓RW_regd, ↓RO_op, ↓RO_t, ↓RO_f, ↓RO_nt, ↓RO_nf, ↓RO_u, ↓AO_nil, ↓RD_op, ↓RD_t, ↓RD_f, ↓RD_nt, ↓RD_fe, ↓RD_nte, ↓RD_nf, ↓RD_u, ↓AOD_nil, CDops_eff, CDops_no, CDops_1, CDops_2, Again_nil, Again_cons, Same1_int, Same1_bool, Same1_str, Same1_ptr, Same1_slice, Same1_nil, CSeq_ap, CReg_ap, COps_ap, Then_normal, Then_ret, Then_exit, InBlock_normal, InBlock_ret, InBlock_self, InBlock_exit, Ends_ret, Ends_normal, ares, tup, finO_some, fin_same, fin_false, argsE, dval, aop, ev, evs, evo, evp, fillL, addrOf, intOf?, lk_put, lk_none, lk_cons, lk_nil, keep_nil, keep_cons, Op1_some, Option.map_some, Option.bind_some, reduceIte, Nat.reduceEqDiff, binV_lss, binV_leq, binV_gtr, binV_geq, binV_eql, binV_neq, binV_add, binV_sub, binV_mul, un_not, CondA_false, CondA_true, Bool.not_true, Bool.not_false, reduceCtorEq, decide_true, decide_false, Nat.add_zero, Nat.zero_add, Nat.reduceAdd, Nat.reduceMul, Bool.bne_false, Bool.bne_true, eqPtr, Option.isNone_some, Option.isNone_none, List.getElem?_cons_zero, List.getElem?_cons_succ, Option.isSome_none, Option.isSome_some , hload, hstore, List.length_cons, List.length_nil, Nat.reduceAdd, Nat.reduceLeDiff, decide_true, List.all_cons, List.all_nil, one, Bool.and_true, Bool.true_and, Bool.and_self, splice, List.set_cons_zero, List.set_cons_succ, List.getElem?_cons_zero, List.getElem?_cons_succ, vc_int, vc_slice, vc_str, vc_bool, vc_int', vc_slice', vc_str', vc_bool', List.length_set, List.length_append, Nat.lt_irrefl, Nat.lt_add_one, and_self, true_and, and_true, lenV, cellsOfSlice, Nat.le_refl, if_true , hp, h1, ne_eq, not_true_eq_false, hleft, h2, hc]
      all_goals (first | rfl | exact ⟨rfl, rfl⟩ | exact ⟨rfl, trivial⟩ | exact ⟨trivial, trivial⟩ | exact ⟨trivial, rfl⟩ | trivial)
    · have hl2 : r.left.toNat = 8 * r.s.size - r.at_ := by simp only [RS.left, if_pos h1]; omega
      have hc : r.close = if valOf r.s r.at_ (8 * r.s.size - r.at_) ≠ 0 then 10 else 0 := by
        unfold RS.close; rw [if_neg (by simpa using h1), if_neg h2, hl2]
      have w1 : IntKind.i64.wrap (8 * (r.s.size : Int)) = ((8 * r.s.size : Nat) : Int) := by rw [wrap_i64 (by omega) (by omega)]; omega
      simp only [F37, ↓RW_seq, ↓AW_ret, ↓AW_skip, ↓AW_exit, ↓AW_block, ↓RW_cond, ↓RW_reg, ↓RW_regd, ↓RO_op, ↓RO_t, ↓RO_f, ↓RO_nt, ↓RO_nf, ↓RO_u, ↓AO_nil, ↓RD_op, ↓RD_t, ↓RD_f, ↓RD_nt, ↓RD_fe, ↓RD_nte, ↓RD_nf, ↓RD_u, ↓AOD_nil, CDops_eff, CDops_no, CDops_1, CDops_2, Again_nil, Again_cons, Same1_int, Same1_bool, Same1_str, Same1_ptr, Same1_slice, Same1_nil, CSeq_ap, CReg_ap, COps_ap, Then_normal, Then_ret, Then_exit, InBlock_normal, InBlock_ret, InBlock_self, InBlock_exit, Ends_ret, Ends_normal, ares, tup, finO_some, fin_same, fin_false, argsE, dval, aop, ev, evs, evo, evp, fillL, addrOf, intOf?, lk_put, lk_none, lk_cons, lk_nil, keep_nil, keep_cons, Op1_some, Option.map_some, Option.bind_some, reduceIte, Nat.reduceEqDiff, binV_lss, binV_leq, binV_gtr, binV_geq, binV_eql, binV_neq, binV_add, binV_sub, binV_mul, un_not, CondA_false, CondA_true, Bool.not_true, Bool.not_false, reduceCtorEq, decide_true, decide_false, Nat.add_zero, Nat.zero_add, Nat.reduceAdd, Nat.reduceMul, Bool.bne_false, Bool.bne_true, eqPtr, Option.isNone_some, Option.isNone_none, List.getElem?_cons_zero, List.getElem?_cons_succ, Option.isSome_none, Option.isSome_some , hload, hstore, List.length_cons, List.length_nil, Nat.reduceAdd, Nat.reduceLeDiff, decide_true, List.all_cons, List.all_nil, one, Bool.and_true, Bool.true_and, Bool.and_self, splice, List.set_cons_zero, List.set_cons_succ, List.getElem?_cons_zero, List.getElem?_cons_succ, vc_int, vc_slice, vc_str, vc_bool, vc_int', vc_slice', vc_str', vc_bool', List.length_set, List.length_append, Nat.lt_irrefl, Nat.lt_add_one, and_self, true_and, and_true, lenV, cellsOfSlice, Nat.le_refl, if_true , hp, h1, ne_eq, not_true_eq_false, hleft, h2]
      apply AW_loop_inv (fun j e H1 => j ≤ 8 * r.s.size - r.at_ ∧ e = [(0, .pointer (some ⟨p, 0, none⟩)), (3, .int .i64 ((8 * r.s.size - j : Nat) : Int))] ∧ H1 = H ∧ ∀ k, r.at_ ≤ k → k < 8 * r.s.size - j → sbit r.s k = false) _ (8 * r.s.size - r.at_)
      · refine ⟨Nat.le_refl _, by rw [show 8 * r.s.size - (8 * r.s.size - r.at_) = r.at_ by omega], rfl, fun k a b => by omega⟩
      · rintro j e H1 ⟨hj, rfl, rfl, hz⟩
        cases j with
        | zero =>
          have g0 : ¬ ((8 * r.s.size : Nat) : Int) < ((8 * r.s.size : Nat) : Int) := by omega
          have hv : valOf r.s r.at_ (8 * r.s.size - r.at_) = 0 := by
            have := valOf_bits (s := r.s) (a := r.at_) (w := 8 * r.s.size - r.at_) (n := 0) (fun i hi => by rw [hz _ (by omega) (by omega)]; simp) _ (Nat.le_refl _)
            rw [this]; simp
          rw [hv] at hc
          simp only [↓RW_seq, ↓AW_ret, ↓AW_skip, ↓AW_exit, ↓AW_block, ↓RW_cond, ↓RW_reg, ↓RW_regd, ↓RO_op, ↓RO_t, ↓RO_f, ↓RO_nt, ↓RO_nf, ↓RO_u, ↓AO_nil, ↓RD_op, ↓RD_t, ↓RD_f, ↓RD_nt, ↓RD_fe, ↓RD_nte, ↓RD_nf, ↓RD_u, ↓AOD_nil, CDops_eff, CDops_no, CDops_1, CDops_2, Again_nil, Again_cons, Same1_int, Same1_bool, Same1_str, Same1_ptr, Same1_slice, Same1_nil, CSeq_ap, CReg_ap, COps_ap, Then_normal, Then_ret, Then_exit, InBlock_normal, InBlock_ret, InBlock_self, InBlock_exit, Ends_ret, Ends_normal, ares, tup, finO_some, fin_same, fin_false, argsE, dval, aop, ev, evs, evo, evp, fillL, addrOf, intOf?, lk_put, lk_none, lk_cons, lk_nil, keep_nil, keep_cons, Op1_some, Option.map_some, Option.bind_some, reduceIte, Nat.reduceEqDiff, binV_lss, binV_leq, binV_gtr, binV_geq, binV_eql, binV_neq, binV_add, binV_sub, binV_mul, un_not, CondA_false, CondA_true, Bool.not_true, Bool.not_false, reduceCtorEq, decide_true, decide_false, Nat.add_zero, Nat.zero_add, Nat.reduceAdd, Nat.reduceMul, Bool.bne_false, Bool.bne_true, eqPtr, Option.isNone_some, Option.isNone_none, List.getElem?_cons_zero, List.getElem?_cons_succ, Option.isSome_none, Option.isSome_some , hload, hstore, List.length_cons, List.length_nil, Nat.reduceAdd, Nat.reduceLeDiff, decide_true, List.all_cons, List.all_nil, one, Bool.and_true, Bool.true_and, Bool.and_self, splice, List.set_cons_zero, List.set_cons_succ, List.getElem?_cons_zero, List.getElem?_cons_succ, vc_int, vc_slice, vc_str, vc_bool, vc_int', vc_slice', vc_str', vc_bool', List.length_set, List.length_append, Nat.lt_irrefl, Nat.lt_add_one, and_self, true_and, and_true, lenV, cellsOfSlice, Nat.le_refl, if_true , hp, w1, Nat.sub_zero, g0, hc]
          all_goals (first | rfl | exact ⟨rfl, rfl⟩ | exact ⟨rfl, trivial⟩ | exact ⟨trivial, trivial⟩ | exact ⟨trivial, rfl⟩ | trivial)
        | succ j =>
          have g0 : ((8 * r.s.size - (j + 1) : Nat) : Int) < ((8 * r.s.size : Nat) : Int) := by omega
          obtain ⟨b, hb⟩ := str_get r.s ((8 * r.s.size - (j + 1)) / 8) (by omega)
          have hb8 : b.toNat < 256 := b.toNat_lt
          have hbit : b.toNat / 2 ^ (7 - (8 * r.s.size - (j + 1)) % 8) % 2 = (sbit r.s (8 * r.s.size - (j + 1))).toNat := by
            rw [testBit_mod]; unfold sbit; rw [hb]; rfl
          have hdiv : b.toNat / 2 ^ (7 - (8 * r.s.size - (j + 1)) % 8) < 9223372036854775808 := Nat.lt_of_le_of_lt (Nat.div_le_self _ _) (by omega)
          have g1 : (0 : Int) ≤ (((8 * r.s.size - (j + 1)) / 8 : Nat) : Int) := by omega
          have g3 : IntKind.i64.wrap (((8 * r.s.size - (j + 1) : Nat) : Int) + 1) = ((8 * r.s.size - j : Nat) : Int) := by rw [wrap_i64 (by omega) (by omega)]; omega
          have g4 : IntKind.i64.wrap (b.toNat : Int) = (b.toNat : Int) := wrap_i64 (by omega) (by omega)
          cases hs : sbit r.s (8 * r.s.size - (j + 1)) with
          | true =>
            have hv : valOf r.s r.at_ (8 * r.s.size - r.at_) ≠ 0 := fun hv => by
              have := valOf_zero _ _ _ hv (8 * r.s.size - (j + 1) - r.at_) (by omega)
              rw [show r.at_ + (8 * r.s.size - (j + 1) - r.at_) = 8 * r.s.size - (j + 1) by omega, hs] at this
              simp at this
            rw [if_pos hv] at hc
            rw [hs] at hbit
            simp only [↓RW_seq, ↓AW_ret, ↓AW_skip, ↓AW_exit, ↓AW_block, ↓RW_cond, ↓RW_reg, ↓RW_regd, ↓RO_op, ↓RO_t, ↓RO_f, ↓RO_nt, ↓RO_nf, ↓RO_u, ↓AO_nil, ↓RD_op, ↓RD_t, ↓RD_f, ↓RD_nt, ↓RD_fe, ↓RD_nte, ↓RD_nf, ↓RD_u, ↓AOD_nil, CDops_eff, CDops_no, CDops_1, CDops_2, Again_nil, Again_cons, Same1_int, Same1_bool, Same1_str, Same1_ptr, Same1_slice, Same1_nil, CSeq_ap, CReg_ap, COps_ap, Then_normal, Then_ret, Then_exit, InBlock_normal, InBlock_ret, InBlock_self, InBlock_exit, Ends_ret, Ends_normal, ares, tup, finO_some, fin_same, fin_false, argsE, dval, aop, ev, evs, evo, evp, fillL, addrOf, intOf?, lk_put, lk_none, lk_cons, lk_nil, keep_nil, keep_cons, Op1_some, Option.map_some, Option.bind_some, reduceIte, Nat.reduceEqDiff, binV_lss, binV_leq, binV_gtr, binV_geq, binV_eql, binV_neq, binV_add, binV_sub, binV_mul, un_not, CondA_false, CondA_true, Bool.not_true, Bool.not_false, reduceCtorEq, decide_true, decide_false, Nat.add_zero, Nat.zero_add, Nat.reduceAdd, Nat.reduceMul, Bool.bne_false, Bool.bne_true, eqPtr, Option.isNone_some, Option.isNone_none, List.getElem?_cons_zero, List.getElem?_cons_succ, Option.isSome_none, Option.isSome_some , hload, hstore, List.length_cons, List.length_nil, Nat.reduceAdd, Nat.reduceLeDiff, decide_true, List.all_cons, List.all_nil, one, Bool.and_true, Bool.true_and, Bool.and_self, splice, List.set_cons_zero, List.set_cons_succ, List.getElem?_cons_zero, List.getElem?_cons_succ, vc_int, vc_slice, vc_str, vc_bool, vc_int', vc_slice', vc_str', vc_bool', List.length_set, List.length_append, Nat.lt_irrefl, Nat.lt_add_one, and_self, true_and, and_true, lenV, cellsOfSlice, Nat.le_refl, if_true , hp, w1, g0, quo8 _ (by omega : 8 * r.s.size - (j + 1) < 9223372036854775808), rem8, g1, Int.toNat_natCast, hb, g4, sub7 _ (by omega : (8 * r.s.size - (j + 1)) % 8 ≤ 7), shr64i _ _ (by omega : 7 - (8 * r.s.size - (j + 1)) % 8 ≤ 64), and64i _ hdiv, hbit, (show ((true.toNat : Nat) : Int) = 1 from rfl), hc]
            all_goals (first | rfl | exact ⟨rfl, rfl⟩ | exact ⟨rfl, trivial⟩ | exact ⟨trivial, trivial⟩ | exact ⟨trivial, rfl⟩ | trivial)
          | false =>
            rw [hs] at hbit
            have n0 : ¬ ((false.toNat : Nat) : Int) = 1 := by decide
            simp only [↓RW_seq, ↓AW_ret, ↓AW_skip, ↓AW_exit, ↓AW_block, ↓RW_cond, ↓RW_reg, ↓RW_regd, ↓RO_op, ↓RO_t, ↓RO_f, ↓RO_nt, ↓RO_nf, ↓RO_u, ↓AO_nil, ↓RD_op, ↓RD_t, ↓RD_f, ↓RD_nt, ↓RD_fe, ↓RD_nte, ↓RD_nf, ↓RD_u, ↓AOD_nil, CDops_eff, CDops_no, CDops_1, CDops_2, Again_nil, Again_cons, Same1_int, Same1_bool, Same1_str, Same1_ptr, Same1_slice, Same1_nil, CSeq_ap, CReg_ap, COps_ap, Then_normal, Then_ret, Then_exit, InBlock_normal, InBlock_ret, InBlock_self, InBlock_exit, Ends_ret, Ends_normal, ares, tup, finO_some, fin_same, fin_false, argsE, dval, aop, ev, evs, evo, evp, fillL, addrOf, intOf?, lk_put, lk_none, lk_cons, lk_nil, keep_nil, keep_cons, Op1_some, Option.map_some, Option.bind_some, reduceIte, Nat.reduceEqDiff, binV_lss, binV_leq, binV_gtr, binV_geq, binV_eql, binV_neq, binV_add, binV_sub, binV_mul, un_not, CondA_false, CondA_true, Bool.not_true, Bool.not_false, reduceCtorEq, decide_true, decide_false, Nat.add_zero, Nat.zero_add, Nat.reduceAdd, Nat.reduceMul, Bool.bne_false, Bool.bne_true, eqPtr, Option.isNone_some, Option.isNone_none, List.getElem?_cons_zero, List.getElem?_cons_succ, Option.isSome_none, Option.isSome_some , hload, hstore, List.length_cons, List.length_nil, Nat.reduceAdd, Nat.reduceLeDiff, decide_true, List.all_cons, List.all_nil, one, Bool.and_true, Bool.true_and, Bool.and_self, splice, List.set_cons_zero, List.set_cons_succ, List.getElem?_cons_zero, List.getElem?_cons_succ, vc_int, vc_slice, vc_str, vc_bool, vc_int', vc_slice', vc_str', vc_bool', List.length_set, List.length_append, Nat.lt_irrefl, Nat.lt_add_one, and_self, true_and, and_true, lenV, cellsOfSlice, Nat.le_refl, if_true , hp, w1, g0, quo8 _ (by omega : 8 * r.s.size - (j + 1) < 9223372036854775808), rem8, g1, Int.toNat_natCast, hb, g4, sub7 _ (by omega : (8 * r.s.size - (j + 1)) % 8 ≤ 7), shr64i _ _ (by omega : 7 - (8 * r.s.size - (j + 1)) % 8 ≤ 64), and64i _ hdiv, hbit, n0, g3]
            refine ⟨j, by omega, by omega, rfl, rfl, fun k a b => ?_⟩
            by_cases hk : k = 8 * r.s.size - (j + 1)
            · rw [hk]; exact hs
            · exact hz k a (by omega)
  · have hc : r.close = r.err := by simp [RS.close, h1]
    rw [RS.x_bad h1] at hp
    simp only [F37, ↓RW_seq, ↓AW_ret, ↓AW_skip, ↓AW_exit, ↓AW_block, ↓RW_cond, ↓RW_reg, ↓RW_regd, ↓RO_op, ↓RO_t, ↓RO_f, ↓RO_nt, ↓RO_nf, ↓RO_u, ↓AO_nil, ↓RD_op, ↓RD_t, ↓RD_f, ↓RD_nt, ↓RD_fe, ↓RD_nte, ↓RD_nf, ↓RD_u, ↓AOD_nil, CDops_eff, CDops_no, CDops_1, CDops_2, Again_nil, Again_cons, Same1_int, Same1_bool, Same1_str, Same1_ptr, Same1_slice, Same1_nil, CSeq_ap, CReg_ap, COps_ap, Then_normal, Then_ret, Then_exit, InBlock_normal, InBlock_ret, InBlock_self, InBlock_exit, Ends_ret, Ends_normal, ares, tup, finO_some, fin_same, fin_false, argsE, dval, aop, ev, evs, evo, evp, fillL, addrOf, intOf?, lk_put, lk_none, lk_cons, lk_nil, keep_nil, keep_cons, Op1_some, Option.map_some, Option.bind_some, reduceIte, Nat.reduceEqDiff, binV_lss, binV_leq, binV_gtr, binV_geq, binV_eql, binV_neq, binV_add, binV_sub, binV_mul, un_not, CondA_false, CondA_true, Bool.not_true, Bool.not_false, reduceCtorEq, decide_true, decide_false, Nat.add_zero, Nat.zero_add, Nat.reduceAdd, Nat.reduceMul, Bool.bne_false, Bool.bne_true, eqPtr, Option.isNone_some, Option.isNone_none, List.getElem?_cons_zero, List.getElem?_cons_succ, Option.isSome_none, Option.isSome_some , hload, hstore, List.length_cons, List.length_nil, Nat.reduceAdd, Nat.reduceLeDiff, decide_true, List.all_cons, List.all_nil, one, Bool.and_true, Bool.true_and, Bool.and_self, splice, List.set_cons_zero, List.set_cons_succ, List.getElem?_cons_zero, List.getElem?_cons_succ, vc_int, vc_slice, vc_str, vc_bool, vc_int', vc_slice', vc_str', vc_bool', List.length_set, List.length_append, Nat.lt_irrefl, Nat.lt_add_one, and_self, true_and, and_true, lenV, cellsOfSlice, Nat.le_refl, if_true , hp, h1, ne_eq, not_false_eq_true, hc]
    all_goals (first | rfl | exact ⟨rfl, rfl⟩ | exact ⟨rfl, trivial⟩ | exact ⟨trivial, trivial⟩ | exact ⟨trivial, rfl⟩ | trivial)

theorem xtext_spec {H : Heap} {p : Nat} {r : RS} {most : Int} (h : RSt H p r.x) (ho : r.Ok) (hm : Is64 most) {K : Value → Heap → Prop}
    (hk : ∀ H', RSt H' p (r.text most).2.x → Frm [p] H H' → K (.string (r.text most).1) H') : Op1 (AC tbl 32 [.pointer (some ⟨p, 0, none⟩), .int .i64 most] H) K := by
  apply AC_wp (F := F32) rfl (by simp [F32]) (.inl rfl)
  have hwd := wd_le (n := most) hm.2
  have hp := cells_get h
  have hpl := h.lt
  have n1 : ¬ (1 : Int) = 0 := by omega
  have n2 : ¬ (2 : Int) = 0 := by omega
  have n9 : ¬ (9 : Int) = 0 := by omega
  by_cases h1 : r.err = 0
  · by_cases h2 : lim most = true
    · have hlm : 1 ≤ most ∧ most ≤ 4095 := by simpa [lim] using h2
      have e1 : ¬ most < 1 := by omega
      have e2 : ¬ 4095 < most := by omega
      have hg := xget_spec (w := (wd most : Int)) h ho (fun _ => by omega)
      have hsm := @field_small r true (wd most) (fun _ => by omega)
      have hok := RS.field_ok ho (right := true) (w := (wd most : Int)) (fun _ => by omega)
      unfold RS.text at hk
      rw [h2] at hk
      generalize hx : r.field true (wd most) = x at *
      obtain ⟨n, r'⟩ := x
      simp only at hg hk hok hsm
      have hst := setR_st hpl r'.x
      have hc := cells_get hst
      by_cases h3 : r'.err = 0
      · by_cases h4 : most < (n : Int)
        · rw [if_neg (by simp [h3]), if_pos h4] at hk
          have hq : hget (setR H p ⟨⟨#[]⟩, 0, 2⟩) p = some ⟨true, [.string ⟨#[]⟩, .int .i64 ((0 : Nat) : Int), .int .i64 2]⟩ := setR_st hpl _
          simp only [F32, ↓RW_seq, ↓AW_ret, ↓AW_skip, ↓AW_exit, ↓AW_block, ↓RW_cond, ↓RW_reg, ↓RW_regd, ↓RO_op, ↓RO_t, ↓RO_f, ↓RO_nt, ↓RO_nf, ↓RO_u, ↓AO_nil, ↓RD_op, ↓RD_t, ↓RD_f, ↓RD_nt, ↓RD_fe, ↓RD_nte, ↓RD_nf, ↓RD_u, ↓AOD_nil, CDops_eff, CDops_no, CDops_1, CDops_2, Again_nil, Again_cons, Same1_int, Same1_bool, Same1_str, Same1_ptr, Same1_slice, Same1_nil, CSeq_ap, CReg_ap, COps_ap, Then_normal, Then_ret, Then_exit, InBlock_normal, InBlock_ret, InBlock_self, InBlock_exit, Ends_ret, Ends_normal, ares, tup, finO_some, fin_same, fin_false, argsE, dval, aop, ev, evs, evo, evp, fillL, addrOf, intOf?, lk_put, lk_none, lk_cons, lk_nil, keep_nil, keep_cons, Op1_some, Option.map_some, Option.bind_some, reduceIte, Nat.reduceEqDiff, binV_lss, binV_leq, binV_gtr, binV_geq, binV_eql, binV_neq, binV_add, binV_sub, binV_mul, un_not, CondA_false, CondA_true, Bool.not_true, Bool.not_false, reduceCtorEq, decide_true, decide_false, Nat.add_zero, Nat.zero_add, Nat.reduceAdd, Nat.reduceMul, Bool.bne_false, Bool.bne_true, eqPtr, Option.isNone_some, Option.isNone_none, List.getElem?_cons_zero, List.getElem?_cons_succ, Option.isSome_none, Option.isSome_some , hload, hstore, List.length_cons, List.length_nil, Nat.reduceAdd, Nat.reduceLeDiff, decide_true, List.all_cons, List.all_nil, one, Bool.and_true, Bool.true_and, Bool.and_self, splice, List.set_cons_zero, List.set_cons_succ, List.getElem?_cons_zero, List.getElem?_cons_succ, vc_int, vc_slice, vc_str, vc_bool, vc_int', vc_slice', vc_str', vc_bool', List.length_set, List.length_append, Nat.lt_irrefl, Nat.lt_add_one, and_self, true_and, and_true, lenV, cellsOfSlice, Nat.le_refl, if_true , hp, RS.x_err, h1, e1, e2, refWidth most hm.2, hg, hc, h3, h4, xfail_spec hst, setR_setR, hq, n2, ne_eq, not_false_eq_true]
          exact hk _ (by rw [x_fail (by omega)]; exact setR_st hpl _) (setR_frm _ _ _)
        · have hleft := xleft_spec hst hok
          have w1 : IntKind.i64.wrap (8 * (n : Int)) = 8 * (n : Int) := wrap_i64 (by omega) (by omega)
          by_cases h5 : r'.left < 8 * (n : Int)
          · rw [if_neg (by simp [h3]), if_neg h4, if_pos h5] at hk
            have hq : hget (setR H p ⟨⟨#[]⟩, 0, 9⟩) p = some ⟨true, [.string ⟨#[]⟩, .int .i64 ((0 : Nat) : Int), .int .i64 9]⟩ := setR_st hpl _
            simp only [F32, ↓RW_seq, ↓AW_ret, ↓AW_skip, ↓AW_exit, ↓AW_block, ↓RW_cond, ↓RW_reg, ↓RW_regd, ↓RO_op, ↓RO_t, ↓RO_f, ↓RO_nt, ↓RO_nf, ↓RO_u, ↓AO_nil, ↓RD_op, ↓RD_t, ↓RD_f, ↓RD_nt, ↓RD_fe, ↓RD_nte, ↓RD_nf, ↓RD_u, ↓AOD_nil, CDops_eff, CDops_no, CDops_1, CDops_2, Again_nil, Again_cons, Same1_int, Same1_bool, Same1_str, Same1_ptr, Same1_slice, Same1_nil, CSeq_ap, CReg_ap, COps_ap, Then_normal, Then_ret, Then_exit, InBlock_normal, InBlock_ret, InBlock_self, InBlock_exit, Ends_ret, Ends_normal, ares, tup, finO_some, fin_same, fin_false, argsE, dval, aop, ev, evs, evo, evp, fillL, addrOf, intOf?, lk_put, lk_none, lk_cons, lk_nil, keep_nil, keep_cons, Op1_some, Option.map_some, Option.bind_some, reduceIte, Nat.reduceEqDiff, binV_lss, binV_leq, binV_gtr, binV_geq, binV_eql, binV_neq, binV_add, binV_sub, binV_mul, un_not, CondA_false, CondA_true, Bool.not_true, Bool.not_false, reduceCtorEq, decide_true, decide_false, Nat.add_zero, Nat.zero_add, Nat.reduceAdd, Nat.reduceMul, Bool.bne_false, Bool.bne_true, eqPtr, Option.isNone_some, Option.isNone_none, List.getElem?_cons_zero, List.getElem?_cons_succ, Option.isSome_none, Option.isSome_some , hload, hstore, List.length_cons, List.length_nil, Nat.reduceAdd, Nat.reduceLeDiff, decide_true, List.all_cons, List.all_nil, one, Bool.and_true, Bool.true_and, Bool.and_self, splice, List.set_cons_zero, List.set_cons_succ, List.getElem?_cons_zero, List.getElem?_cons_succ, vc_int, vc_slice, vc_str, vc_bool, vc_int', vc_slice', vc_str', vc_bool', List.length_set, List.length_append, Nat.lt_irrefl, Nat.lt_add_one, and_self, true_and, and_true, lenV, cellsOfSlice, Nat.le_refl, if_true , hp, RS.x_err, h1, e1, e2, refWidth most hm.2, hg, hc, h3, h4, hleft, w1, h5, xfail_spec hst, setR_setR, hq, n9, ne_eq, not_false_eq_true]
            exact hk _ (by rw [x_fail (by omega)]; exact setR_st hpl _) (setR_frm _ _ _)
          · rw [if_neg (by simp [h3]), if_neg h4, if_neg h5] at hk
            have hn : n ≤ 4095 := by omega
            have hroom : r'.at_ + 8 * n ≤ 8 * r'.s.size := by
              simp only [RS.left, if_pos h3] at h5; omega
            have hmk : (0 : Int) ≤ (n : Int) ∧ (n : Int) ≤ (n : Int) ∧ (n : Int) ≤ 1000000000 ∧ (1 : Nat) ≤ 1000 := by omega
            have hsize := hok.size
            simp only [F32, ↓RW_seq, ↓AW_ret, ↓AW_skip, ↓AW_exit, ↓AW_block, ↓RW_cond, ↓RW_reg, ↓RW_regd, ↓RO_op, ↓RO_t, ↓RO_f, ↓RO_nt, ↓RO_nf, ↓RO_u, ↓AO_nil, ↓RD_op, ↓RD_t, ↓RD_f, ↓RD_nt, ↓RD_fe, ↓RD_nte, ↓RD_nf, ↓RD_u, ↓AOD_nil, CDops_eff, CDops_no, CDops_1, CDops_2, Again_nil, Again_cons, Same1_int, Same1_bool, Same1_str, Same1_ptr, Same1_slice, Same1_nil, CSeq_ap, CReg_ap, COps_ap, Then_normal, Then_ret, Then_exit, InBlock_normal, InBlock_ret, InBlock_self, InBlock_exit, Ends_ret, Ends_normal, ares, tup, finO_some, fin_same, fin_false, argsE, dval, aop, ev, evs, evo, evp, fillL, addrOf, intOf?, lk_put, lk_none, lk_cons, lk_nil, keep_nil, keep_cons, Op1_some, Option.map_some, Option.bind_some, reduceIte, Nat.reduceEqDiff, binV_lss, binV_leq, binV_gtr, binV_geq, binV_eql, binV_neq, binV_add, binV_sub, binV_mul, un_not, CondA_false, CondA_true, Bool.not_true, Bool.not_false, reduceCtorEq, decide_true, decide_false, Nat.add_zero, Nat.zero_add, Nat.reduceAdd, Nat.reduceMul, Bool.bne_false, Bool.bne_true, eqPtr, Option.isNone_some, Option.isNone_none, List.getElem?_cons_zero, List.getElem?_cons_succ, Option.isSome_none, Option.isSome_some , hload, hstore, List.length_cons, List.length_nil, Nat.reduceAdd, Nat.reduceLeDiff, decide_true, List.all_cons, List.all_nil, one, Bool.and_true, Bool.true_and, Bool.and_self, splice, List.set_cons_zero, List.set_cons_succ, List.getElem?_cons_zero, List.getElem?_cons_succ, vc_int, vc_slice, vc_str, vc_bool, vc_int', vc_slice', vc_str', vc_bool', List.length_set, List.length_append, Nat.lt_irrefl, Nat.lt_add_one, and_self, true_and, and_true, lenV, cellsOfSlice, Nat.le_refl, if_true , hp, RS.x_err, h1, e1, e2, refWidth most hm.2, hg, hc, h3, h4, hleft, w1, h5, ne_eq, not_true_eq_false, hmk, Int.toNat_natCast, flat_zeros, setR_length]
            apply AW_loop_inv (fun j e H1 => j ≤ n ∧ e = [(0, .pointer (some ⟨p, 0, none⟩)), (5, .int .i64 (n : Int)), (6, .slice (some ⟨H.length, 0, none⟩) n 1), (7, .int .i64 ((n - j : Nat) : Int))] ∧
              H1 = setR H p { r' with at_ := r'.at_ + 8 * (n - j) } ++ [some ⟨true, u8s (partL r'.s r'.at_ (n - j) n)⟩]) _ n
            · refine ⟨Nat.le_refl _, by rw [Nat.sub_self]; rfl, ?_⟩
              rw [Nat.sub_self, partL_zero, RS.x_ok h3]; rfl
            · rintro j e H1 ⟨hj, rfl, rfl⟩
              cases j with
              | zero =>
                have g0 : ¬ (n : Int) < (n : Int) := by omega
                have hfin : RSt (setR H p { r' with at_ := r'.at_ + 8 * n } ++ [some ⟨true, u8s (readL r'.s r'.at_ n)⟩]) p ({ r' with at_ := r'.at_ + 8 * n } : RS).x := by
                  rw [RS.x_ok (r := { r' with at_ := r'.at_ + 8 * n }) h3]; exact gh_st hpl
                simp only [Nat.sub_zero, partL_all]
                by_cases hn0 : n = 0
                · subst hn0
                  simp only [↓RW_seq, ↓AW_ret, ↓AW_skip, ↓AW_exit, ↓AW_block, ↓RW_cond, ↓RW_reg, ↓RW_regd, ↓RO_op, ↓RO_t, ↓RO_f, ↓RO_nt, ↓RO_nf, ↓RO_u, ↓AO_nil, ↓RD_op, ↓RD_t, ↓RD_f, ↓RD_nt, ↓RD_fe, ↓RD_nte, ↓RD_nf, ↓RD_u, ↓AOD_nil, CDops_eff, CDops_no, CDops_1, CDops_2, Again_nil, Again_cons, Same1_int, Same1_bool, Same1_str, Same1_ptr, Same1_slice, Same1_nil, CSeq_ap, CReg_ap, COps_ap, Then_normal, Then_ret, Then_exit, InBlock_normal, InBlock_ret, InBlock_self, InBlock_exit, Ends_ret, Ends_normal, ares, tup, finO_some, fin_same, fin_false, argsE, dval, aop, ev, evs, evo, evp, fillL, addrOf, intOf?, lk_put, lk_none, lk_cons, lk_nil, keep_nil, keep_cons, Op1_some, Option.map_some, Option.bind_some, reduceIte, Nat.reduceEqDiff, binV_lss, binV_leq, binV_gtr, binV_geq, binV_eql, binV_neq, binV_add, binV_sub, binV_mul, un_not, CondA_false, CondA_true, Bool.not_true, Bool.not_false, reduceCtorEq, decide_true, decide_false, Nat.add_zero, Nat.zero_add, Nat.reduceAdd, Nat.reduceMul, Bool.bne_false, Bool.bne_true, eqPtr, Option.isNone_some, Option.isNone_none, List.getElem?_cons_zero, List.getElem?_cons_succ, Option.isSome_none, Option.isSome_some , hload, hstore, List.length_cons, List.length_nil, Nat.reduceAdd, Nat.reduceLeDiff, decide_true, List.all_cons, List.all_nil, one, Bool.and_true, Bool.true_and, Bool.and_self, splice, List.set_cons_zero, List.set_cons_succ, List.getElem?_cons_zero, List.getElem?_cons_succ, vc_int, vc_slice, vc_str, vc_bool, vc_int', vc_slice', vc_str', vc_bool', List.length_set, List.length_append, Nat.lt_irrefl, Nat.lt_add_one, and_self, true_and, and_true, lenV, cellsOfSlice, Nat.le_refl, if_true , g0, bytesOf?]
                  exact hk _ hfin ((setR_frm _ _ _).push _)
                · have hl1 : 0 + n * 1 ≤ (u8s (readL r'.s r'.at_ n)).length := by rw [u8s_length, readL_length]; omega
                  have ht : List.take (n * 1) (List.drop 0 (u8s (readL r'.s r'.at_ n))) = u8s (readL r'.s r'.at_ n) := by
                    rw [List.drop_zero, Nat.mul_one]
                    exact List.take_of_length_le (by rw [u8s_length, readL_length]; exact Nat.le_refl _)
                  rw [Nat.zero_add] at hl1
                  simp only [↓RW_seq, ↓AW_ret, ↓AW_skip, ↓AW_exit, ↓AW_block, ↓RW_cond, ↓RW_reg, ↓RW_regd, ↓RO_op, ↓RO_t, ↓RO_f, ↓RO_nt, ↓RO_nf, ↓RO_u, ↓AO_nil, ↓RD_op, ↓RD_t, ↓RD_f, ↓RD_nt, ↓RD_fe, ↓RD_nte, ↓RD_nf, ↓RD_u, ↓AOD_nil, CDops_eff, CDops_no, CDops_1, CDops_2, Again_nil, Again_cons, Same1_int, Same1_bool, Same1_str, Same1_ptr, Same1_slice, Same1_nil, CSeq_ap, CReg_ap, COps_ap, Then_normal, Then_ret, Then_exit, InBlock_normal, InBlock_ret, InBlock_self, InBlock_exit, Ends_ret, Ends_normal, ares, tup, finO_some, fin_same, fin_false, argsE, dval, aop, ev, evs, evo, evp, fillL, addrOf, intOf?, lk_put, lk_none, lk_cons, lk_nil, keep_nil, keep_cons, Op1_some, Option.map_some, Option.bind_some, reduceIte, Nat.reduceEqDiff, binV_lss, binV_leq, binV_gtr, binV_geq, binV_eql, binV_neq, binV_add, binV_sub, binV_mul, un_not, CondA_false, CondA_true, Bool.not_true, Bool.not_false, reduceCtorEq, decide_true, decide_false, Nat.add_zero, Nat.zero_add, Nat.reduceAdd, Nat.reduceMul, Bool.bne_false, Bool.bne_true, eqPtr, Option.isNone_some, Option.isNone_none, List.getElem?_cons_zero, List.getElem?_cons_succ, Option.isSome_none, Option.isSome_some , hload, hstore, List.length_cons, List.length_nil, Nat.reduceAdd, Nat.reduceLeDiff, decide_true, List.all_cons, List.all_nil, one, Bool.and_true, Bool.true_and, Bool.and_self, splice, List.set_cons_zero, List.set_cons_succ, List.getElem?_cons_zero, List.getElem?_cons_succ, vc_int, vc_slice, vc_str, vc_bool, vc_int', vc_slice', vc_str', vc_bool', List.length_set, List.length_append, Nat.lt_irrefl, Nat.lt_add_one, and_self, true_and, and_true, lenV, cellsOfSlice, Nat.le_refl, if_true , g0, hn0, gh_get, hl1, ht, bytes_u8s _ (readL_small _ _ _)]
                  exact hk _ hfin ((setR_frm _ _ _).push _)
              | succ j =>
                have g0 : ((n - (j + 1) : Nat) : Int) < (n : Int) := by omega
                have hi : n - (j + 1) < n := by omega
                have g1 : (0 : Int) ≤ ((n - (j + 1) : Nat) : Int) ∧ ((n - (j + 1) : Nat) : Int) < (n : Int) := by omega
                have g2 : IntKind.i64.wrap (((n - (j + 1) : Nat) : Int) + 1) = ((n - j : Nat) : Int) := by rw [wrap_i64 (by omega) (by omega)]; omega
                have hf8 : (⟨r'.s, r'.at_ + 8 * (n - (j + 1)), r'.err⟩ : RS).field true 8 = (valOf r'.s (r'.at_ + 8 * (n - (j + 1))) 8, ⟨r'.s, r'.at_ + 8 * (n - (j + 1)) + 8, r'.err⟩) := by
                  rw [h3]; exact rfield_ok (by omega) (by simp only [show (8 : Int).toNat = 8 from rfl]; omega)
                have hget8 := @xget_spec (setR H p { r' with at_ := r'.at_ + 8 * (n - (j + 1)) } ++ [some ⟨true, u8s (partL r'.s r'.at_ (n - (j + 1)) n)⟩]) p { r' with at_ := r'.at_ + 8 * (n - (j + 1)) } 8
                  (by rw [RS.x_ok (r := { r' with at_ := r'.at_ + 8 * (n - (j + 1)) }) h3]; exact gh_st hpl) ⟨by simp only; omega, hsize⟩ (fun _ => by omega)
                rw [hf8] at hget8
                simp only at hget8
                rw [RS.x_ok (r := ⟨r'.s, r'.at_ + 8 * (n - (j + 1)) + 8, r'.err⟩) h3, gh_setR hpl] at hget8
                have hval := valOf_lt r'.s (r'.at_ + 8 * (n - (j + 1))) 8
                have hwv : IntKind.u8.wrap ((valOf r'.s (r'.at_ + 8 * (n - (j + 1))) 8 : Nat) : Int) = ((valOf r'.s (r'.at_ + 8 * (n - (j + 1))) 8 : Nat) : Int) := by rw [wrap_u8]; omega
                have hg3 : n - (j + 1) + 1 ≤ (u8s (partL r'.s r'.at_ (n - (j + 1)) n)).length := by rw [u8s_length, partL_length (by omega)]; omega
                simp only [↓RW_seq, ↓AW_ret, ↓AW_skip, ↓AW_exit, ↓AW_block, ↓RW_cond, ↓RW_reg, ↓RW_regd, ↓RO_op, ↓RO_t, ↓RO_f, ↓RO_nt, ↓RO_nf, ↓RO_u, ↓AO_nil, ↓RD_op, ↓RD_t, ↓RD_f, ↓RD_nt, ↓RD_fe, ↓RD_nte, ↓RD_nf, ↓RD_u, ↓AOD_nil, CDops_eff, CDops_no, CDops_1, CDops_2, Again_nil, Again_cons, Same1_int, Same1_bool, Same1_str, Same1_ptr, Same1_slice, Same1_nil, CSeq_ap, CReg_ap, COps_ap, Then_normal, Then_ret, Then_exit, InBlock_normal, InBlock_ret, InBlock_self, InBlock_exit, Ends_ret, Ends_normal, ares, tup, finO_some, fin_same, fin_false, argsE, dval, aop, ev, evs, evo, evp, fillL, addrOf, intOf?, lk_put, lk_none, lk_cons, lk_nil, keep_nil, keep_cons, Op1_some, Option.map_some, Option.bind_some, reduceIte, Nat.reduceEqDiff, binV_lss, binV_leq, binV_gtr, binV_geq, binV_eql, binV_neq, binV_add, binV_sub, binV_mul, un_not, CondA_false, CondA_true, Bool.not_true, Bool.not_false, reduceCtorEq, decide_true, decide_false, Nat.add_zero, Nat.zero_add, Nat.reduceAdd, Nat.reduceMul, Bool.bne_false, Bool.bne_true, eqPtr, Option.isNone_some, Option.isNone_none, List.getElem?_cons_zero, List.getElem?_cons_succ, Option.isSome_none, Option.isSome_some , hload, hstore, List.length_cons, List.length_nil, Nat.reduceAdd, Nat.reduceLeDiff, decide_true, List.all_cons, List.all_nil, one, Bool.and_true, Bool.true_and, Bool.and_self, splice, List.set_cons_zero, List.set_cons_succ, List.getElem?_cons_zero, List.getElem?_cons_succ, vc_int, vc_slice, vc_str, vc_bool, vc_int', vc_slice', vc_str', vc_bool', List.length_set, List.length_append, Nat.lt_irrefl, Nat.lt_add_one, and_self, true_and, and_true, lenV, cellsOfSlice, Nat.le_refl, if_true , g0, hget8, hwv, g1, Int.toNat_natCast, Nat.mul_one, gh_get, hg3, u8s_set, partL_set hi, gh_set, g2]
                refine ⟨j, by omega, by omega, rfl, ?_⟩
                rw [show n - j = n - (j + 1) + 1 by omega, show r'.at_ + 8 * (n - (j + 1)) + 8 = r'.at_ + 8 * (n - (j + 1) + 1) by omega]
      · rw [if_pos (by simpa using h3)] at hk
        simp only [F32, ↓RW_seq, ↓AW_ret, ↓AW_skip, ↓AW_exit, ↓AW_block, ↓RW_cond, ↓RW_reg, ↓RW_regd, ↓RO_op, ↓RO_t, ↓RO_f, ↓RO_nt, ↓RO_nf, ↓RO_u, ↓AO_nil, ↓RD_op, ↓RD_t, ↓RD_f, ↓RD_nt, ↓RD_fe, ↓RD_nte, ↓RD_nf, ↓RD_u, ↓AOD_nil, CDops_eff, CDops_no, CDops_1, CDops_2, Again_nil, Again_cons, Same1_int, Same1_bool, Same1_str, Same1_ptr, Same1_slice, Same1_nil, CSeq_ap, CReg_ap, COps_ap, Then_normal, Then_ret, Then_exit, InBlock_normal, InBlock_ret, InBlock_self, InBlock_exit, Ends_ret, Ends_normal, ares, tup, finO_some, fin_same, fin_false, argsE, dval, aop, ev, evs, evo, evp, fillL, addrOf, intOf?, lk_put, lk_none, lk_cons, lk_nil, keep_nil, keep_cons, Op1_some, Option.map_some, Option.bind_some, reduceIte, Nat.reduceEqDiff, binV_lss, binV_leq, binV_gtr, binV_geq, binV_eql, binV_neq, binV_add, binV_sub, binV_mul, un_not, CondA_false, CondA_true, Bool.not_true, Bool.not_false, reduceCtorEq, decide_true, decide_false, Nat.add_zero, Nat.zero_add, Nat.reduceAdd, Nat.reduceMul, Bool.bne_false, Bool.bne_true, eqPtr, Option.isNone_some, Option.isNone_none, List.getElem?_cons_zero, List.getElem?_cons_succ, Option.isSome_none, Option.isSome_some , hload, hstore, List.length_cons, List.length_nil, Nat.reduceAdd, Nat.reduceLeDiff, decide_true, List.all_cons, List.all_nil, one, Bool.and_true, Bool.true_and, Bool.and_self, splice, List.set_cons_zero, List.set_cons_succ, List.getElem?_cons_zero, List.getElem?_cons_succ, vc_int, vc_slice, vc_str, vc_bool, vc_int', vc_slice', vc_str', vc_bool', List.length_set, List.length_append, Nat.lt_irrefl, Nat.lt_add_one, and_self, true_and, and_true, lenV, cellsOfSlice, Nat.le_refl, if_true , hp, RS.x_err, h1, e1, e2, refWidth most hm.2, hg, hc, h3, ne_eq, not_false_eq_true]
        exact hk _ hst (setR_frm _ _ _)
    · have hl : lim most = false := by simpa using h2
      have hte : r.text most = (⟨#[]⟩, { r with err := 1 }) := by
        unfold RS.text; rw [hl, field_bad h1]; simp
      rw [hte] at hk
      have hg := @xget_spec (setR H p ⟨⟨#[]⟩, 0, 1⟩) p { r with err := 1 } (wd most) (by rw [x_fail (by omega)]; exact setR_st hpl _) ⟨ho.at_le, ho.size⟩ (fun hh => by simp at hh)
      rw [field_err (by simp)] at hg
      simp only [x_fail (by omega : (1 : Int) ≠ 0), setR_setR] at hg
      have hq : hget (setR H p ⟨⟨#[]⟩, 0, 1⟩) p = some ⟨true, [.string ⟨#[]⟩, .int .i64 ((0 : Nat) : Int), .int .i64 1]⟩ := setR_st hpl _
      have hfin := hk (setR H p ⟨⟨#[]⟩, 0, 1⟩) (by rw [x_fail (by omega)]; exact setR_st hpl _) (setR_frm _ _ _)
      by_cases e1 : most < 1
      · simp only [F32, ↓RW_seq, ↓AW_ret, ↓AW_skip, ↓AW_exit, ↓AW_block, ↓RW_cond, ↓RW_reg, ↓RW_regd, ↓RO_op, ↓RO_t, ↓RO_f, ↓RO_nt, ↓RO_nf, ↓RO_u, ↓AO_nil, ↓RD_op, ↓RD_t, ↓RD_f, ↓RD_nt, ↓RD_fe, ↓RD_nte, ↓RD_nf, ↓RD_u, ↓AOD_nil, CDops_eff, CDops_no, CDops_1, CDops_2, Again_nil, Again_cons, Same1_int, Same1_bool, Same1_str, Same1_ptr, Same1_slice, Same1_nil, CSeq_ap, CReg_ap, COps_ap, Then_normal, Then_ret, Then_exit, InBlock_normal, InBlock_ret, InBlock_self, InBlock_exit, Ends_ret, Ends_normal, ares, tup, finO_some, fin_same, fin_false, argsE, dval, aop, ev, evs, evo, evp, fillL, addrOf, intOf?, lk_put, lk_none, lk_cons, lk_nil, keep_nil, keep_cons, Op1_some, Option.map_some, Option.bind_some, reduceIte, Nat.reduceEqDiff, binV_lss, binV_leq, binV_gtr, binV_geq, binV_eql, binV_neq, binV_add, binV_sub, binV_mul, un_not, CondA_false, CondA_true, Bool.not_true, Bool.not_false, reduceCtorEq, decide_true, decide_false, Nat.add_zero, Nat.zero_add, Nat.reduceAdd, Nat.reduceMul, Bool.bne_false, Bool.bne_true, eqPtr, Option.isNone_some, Option.isNone_none, List.getElem?_cons_zero, List.getElem?_cons_succ, Option.isSome_none, Option.isSome_some , hload, hstore, List.length_cons, List.length_nil, Nat.reduceAdd, Nat.reduceLeDiff, decide_true, List.all_cons, List.all_nil, one, Bool.and_true, Bool.true_and, Bool.and_self, splice, List.set_cons_zero, List.set_cons_succ, List.getElem?_cons_zero, List.getElem?_cons_succ, vc_int, vc_slice, vc_str, vc_bool, vc_int', vc_slice', vc_str', vc_bool', List.length_set, List.length_append, Nat.lt_irrefl, Nat.lt_add_one, and_self, true_and, and_true, lenV, cellsOfSlice, Nat.le_refl, if_true , hp, RS.x_err, h1, e1, refWidth most hm.2, xfail_spec h, hg, hq, n1, ne_eq, not_false_eq_true]
        exact hfin
      · have e2 : 4095 < most := by simp [lim] at hl; omega
        simp only [F32, ↓RW_seq, ↓AW_ret, ↓AW_skip, ↓AW_exit, ↓AW_block, ↓RW_cond, ↓RW_reg, ↓RW_regd, ↓RO_op, ↓RO_t, ↓RO_f, ↓RO_nt, ↓RO_nf, ↓RO_u, ↓AO_nil, ↓RD_op, ↓RD_t, ↓RD_f, ↓RD_nt, ↓RD_fe, ↓RD_nte, ↓RD_nf, ↓RD_u, ↓AOD_nil, CDops_eff, CDops_no, CDops_1, CDops_2, Again_nil, Again_cons, Same1_int, Same1_bool, Same1_str, Same1_ptr, Same1_slice, Same1_nil, CSeq_ap, CReg_ap, COps_ap, Then_normal, Then_ret, Then_exit, InBlock_normal, InBlock_ret, InBlock_self, InBlock_exit, Ends_ret, Ends_normal, ares, tup, finO_some, fin_same, fin_false, argsE, dval, aop, ev, evs, evo, evp, fillL, addrOf, intOf?, lk_put, lk_none, lk_cons, lk_nil, keep_nil, keep_cons, Op1_some, Option.map_some, Option.bind_some, reduceIte, Nat.reduceEqDiff, binV_lss, binV_leq, binV_gtr, binV_geq, binV_eql, binV_neq, binV_add, binV_sub, binV_mul, un_not, CondA_false, CondA_true, Bool.not_true, Bool.not_false, reduceCtorEq, decide_true, decide_false, Nat.add_zero, Nat.zero_add, Nat.reduceAdd, Nat.reduceMul, Bool.bne_false, Bool.bne_true, eqPtr, Option.isNone_some, Option.isNone_none, List.getElem?_cons_zero, List.getElem?_cons_succ, Option.isSome_none, Option.isSome_some , hload, hstore, List.length_cons, List.length_nil, Nat.reduceAdd, Nat.reduceLeDiff, decide_true, List.all_cons, List.all_nil, one, Bool.and_true, Bool.true_and, Bool.and_self, splice, List.set_cons_zero, List.set_cons_succ, List.getElem?_cons_zero, List.getElem?_cons_succ, vc_int, vc_slice, vc_str, vc_bool, vc_int', vc_slice', vc_str', vc_bool', List.length_set, List.length_append, Nat.lt_irrefl, Nat.lt_add_one, and_self, true_and, and_true, lenV, cellsOfSlice, Nat.le_refl, if_true , hp, RS.x_err, h1, e1, e2, refWidth most hm.2, xfail_spec h, hg, hq, n1, ne_eq, not_false_eq_true]
        exact hfin
  · have hte : r.text most = (⟨#[]⟩, r) := by
      unfold RS.text; rw [field_err h1]; simp [h1]
    rw [hte] at hk
    have hg := xget_spec (w := (wd most : Int)) h ho (fun hh => absurd hh h1)
    rw [field_err h1, setR_same h] at hg
    simp only [F32, ↓RW_seq, ↓AW_ret, ↓AW_skip, ↓AW_exit, ↓AW_block, ↓RW_cond, ↓RW_reg, ↓RW_regd, ↓RO_op, ↓RO_t, ↓RO_f, ↓RO_nt, ↓RO_nf, ↓RO_u, ↓AO_nil, ↓RD_op, ↓RD_t, ↓RD_f, ↓RD_nt, ↓RD_fe, ↓RD_nte, ↓RD_nf, ↓RD_u, ↓AOD_nil, CDops_eff, CDops_no, CDops_1, CDops_2, Again_nil, Again_cons, Same1_int, Same1_bool, Same1_str, Same1_ptr, Same1_slice, Same1_nil, CSeq_ap, CReg_ap, COps_ap, Then_normal, Then_ret, Then_exit, InBlock_normal, InBlock_ret, InBlock_self, InBlock_exit, Ends_ret, Ends_normal, ares, tup, finO_some, fin_same, fin_false, argsE, dval, aop, ev, evs, evo, evp, fillL, addrOf, intOf?, lk_put, lk_none, lk_cons, lk_nil, keep_nil, keep_cons, Op1_some, Option.map_some, Option.bind_some, reduceIte, Nat.reduceEqDiff, binV_lss, binV_leq, binV_gtr, binV_geq, binV_eql, binV_neq, binV_add, binV_sub, binV_mul, un_not, CondA_false, CondA_true, Bool.not_true, Bool.not_false, reduceCtorEq, decide_true, decide_false, Nat.add_zero, Nat.zero_add, Nat.reduceAdd, Nat.reduceMul, Bool.bne_false, Bool.bne_true, eqPtr, Option.isNone_some, Option.isNone_none, List.getElem?_cons_zero, List.getElem?_cons_succ, Option.isSome_none, Option.isSome_some , hload, hstore, List.length_cons, List.length_nil, Nat.reduceAdd, Nat.reduceLeDiff, decide_true, List.all_cons, List.all_nil, one, Bool.and_true, Bool.true_and, Bool.and_self, splice, List.set_cons_zero, List.set_cons_succ, List.getElem?_cons_zero, List.getElem?_cons_succ, vc_int, vc_slice, vc_str, vc_bool, vc_int', vc_slice', vc_str', vc_bool', List.length_set, List.length_append, Nat.lt_irrefl, Nat.lt_add_one, and_self, true_and, and_true, lenV, cellsOfSlice, Nat.le_refl, if_true , hp, RS.x_err, h1, refWidth most hm.2, hg, ne_eq, not_false_eq_true]
    exact hk H h (Frm.refl _ _)

end Go.Proofs.Ytlbhbjaimcinbaa.AI

