/- Lists of fields, and whether they are few and short. -/
import Derived.Test.YtlbhbjaimcinbaaM2
set_option linter.unusedSimpArgs false
namespace Go.Proofs.Ytlbhbjaimcinbaa.AI
open Go

def flat (l : List Fld) : List Value := (l.map Fld.cells).flatten
theorem flat_length (l : List Fld) : (flat l).length = 4 * l.length := by
  induction l with
  | nil => rfl
  | cons f l ih => simp only [flat, List.map_cons, List.flatten_cons, List.length_append, List.length_cons] at ih ⊢; rw [ih]; simp [Fld.cells]; omega
theorem flat_get : ∀ (l : List Fld) (i : Nat) (f : Fld), l[i]? = some f → List.take 4 (List.drop (i * 4) (flat l)) = f.cells := by
  intro l
  induction l with
  | nil => intro i f h; simp at h
  | cons g l ih =>
    intro i f h
    cases i with
    | zero => simp at h; subst h; simp [flat, Fld.cells]
    | succ i =>
      have := ih i f (by simpa using h)
      rw [← this]
      rw [show (i + 1) * 4 = i * 4 + 4 by omega]
      rfl

/-- A list of fields, as an argument. -/
def LA (H : Heap) (v : Value) (l : List Fld) : Prop := (v = .slice none 0 0 ∧ l = []) ∨ ∃ b, v = .slice (some ⟨b, 0, none⟩) l.length 4 ∧ (l = [] ∨ hget H b = some ⟨false, flat l⟩)
/-- The list stays where its block is not written. -/
def LAout (v : Value) (O : List Nat) : Prop := ∀ b n z, v = .slice (some ⟨b, 0, none⟩) n z → b ∉ O

def fewB (l : List Fld) : Bool := decide (l.length ≤ 40) && l.all fun f => decide (f.s.size ≤ 200)

theorem few_spec {H : Heap} {v : Value} {l : List Fld} (h : LA H v l) {K : Value → Heap → Prop} (hk : ∀ H', Frm [] H H' → K (.bool (fewB l)) H') : Op1 (AC tbl 12 [v] H) K := by
  apply AC_wp (F := F12) rfl (by simp [F12]) (.inl rfl)
  have main : ∀ (b : Option Addr) (z : Nat), v = .slice b l.length z → (∀ (i : Nat) (f : Fld), l[i]? = some f → ∃ q, b = some ⟨q, 0, none⟩ ∧ z = 4 ∧ hget H q = some ⟨false, flat l⟩) → AW tbl F12.body (argsE 0 [v]) H (Ends F12.results F12.trunc H.length K) := by
    rintro b z rfl hb
    by_cases h40 : (40 : Int) < (l.length : Int)
    · have : fewB l = false := by have : ¬ l.length ≤ 40 := by omega
                                  simp [fewB, this]
      rw [this] at hk
      simp only [F12, ↓RW_seq, ↓AW_ret, ↓AW_skip, ↓AW_exit, ↓AW_block, ↓RW_cond, ↓RW_reg, ↓RW_regd, ↓RO_op, ↓RO_t, ↓RO_f, ↓RO_nt, ↓RO_nf, ↓AO_nil, ↓RD_op, ↓RD_t, ↓RD_f, ↓RD_nt, ↓RD_fe, ↓RD_nte, ↓RD_nf, ↓AOD_nil, CDops_eff, CDops_no, CDops_1, CDops_2, Again_nil, Again_cons, Same1_int, Same1_bool, Same1_str, Same1_ptr, Same1_slice, Same1_nil, CSeq_ap, CReg_ap, COps_ap, Then_normal, Then_ret, Then_exit, InBlock_normal, InBlock_ret, InBlock_self, InBlock_exit, Ends_ret, Ends_normal, ares, tup, finO_some, fin_same, fin_false, argsE, dval, aop, ev, evs, evo, evp, fillL, addrOf, intOf?, lk_put, lk_none, lk_cons, lk_nil, keep_nil, keep_cons, Op1_some, Option.map_some, Option.bind_some, reduceIte, Nat.reduceEqDiff, binV_lss, binV_leq, binV_gtr, binV_geq, binV_eql, binV_neq, binV_add, binV_sub, binV_mul, un_not, CondA_false, CondA_true, Bool.not_true, Bool.not_false, reduceCtorEq, decide_true, decide_false, Nat.add_zero, Nat.zero_add, Nat.reduceAdd, Nat.reduceMul, Bool.bne_false, Bool.bne_true, eqPtr, Option.isNone_some, Option.isNone_none, List.getElem?_cons_zero, List.getElem?_cons_succ, Option.isSome_none, Option.isSome_some , hload, hstore, List.length_cons, List.length_nil, Nat.reduceAdd, Nat.reduceLeDiff, decide_true, List.all_cons, List.all_nil, one, Bool.and_true, Bool.true_and, Bool.and_self, splice, List.set_cons_zero, List.set_cons_succ, List.getElem?_cons_zero, List.getElem?_cons_succ, vc_int, vc_slice, vc_str, vc_bool, vc_int', vc_slice', vc_str', vc_bool', List.length_set, List.length_append, Nat.lt_irrefl, Nat.lt_add_one, and_self, true_and, and_true, lenV, cellsOfSlice, Nat.le_refl, if_true , h40]
      exact hk _ (Frm.refl _ _)
    · simp only [F12, ↓RW_seq, ↓AW_ret, ↓AW_skip, ↓AW_exit, ↓AW_block, ↓RW_cond, ↓RW_reg, ↓RW_regd, ↓RO_op, ↓RO_t, ↓RO_f, ↓RO_nt, ↓RO_nf, ↓AO_nil, ↓RD_op, ↓RD_t, ↓RD_f, ↓RD_nt, ↓RD_fe, ↓RD_nte, ↓RD_nf, ↓AOD_nil, CDops_eff, CDops_no, CDops_1, CDops_2, Again_nil, Again_cons, Same1_int, Same1_bool, Same1_str, Same1_ptr, Same1_slice, Same1_nil, CSeq_ap, CReg_ap, COps_ap, Then_normal, Then_ret, Then_exit, InBlock_normal, InBlock_ret, InBlock_self, InBlock_exit, Ends_ret, Ends_normal, ares, tup, finO_some, fin_same, fin_false, argsE, dval, aop, ev, evs, evo, evp, fillL, addrOf, intOf?, lk_put, lk_none, lk_cons, lk_nil, keep_nil, keep_cons, Op1_some, Option.map_some, Option.bind_some, reduceIte, Nat.reduceEqDiff, binV_lss, binV_leq, binV_gtr, binV_geq, binV_eql, binV_neq, binV_add, binV_sub, binV_mul, un_not, CondA_false, CondA_true, Bool.not_true, Bool.not_false, reduceCtorEq, decide_true, decide_false, Nat.add_zero, Nat.zero_add, Nat.reduceAdd, Nat.reduceMul, Bool.bne_false, Bool.bne_true, eqPtr, Option.isNone_some, Option.isNone_none, List.getElem?_cons_zero, List.getElem?_cons_succ, Option.isSome_none, Option.isSome_some , hload, hstore, List.length_cons, List.length_nil, Nat.reduceAdd, Nat.reduceLeDiff, decide_true, List.all_cons, List.all_nil, one, Bool.and_true, Bool.true_and, Bool.and_self, splice, List.set_cons_zero, List.set_cons_succ, List.getElem?_cons_zero, List.getElem?_cons_succ, vc_int, vc_slice, vc_str, vc_bool, vc_int', vc_slice', vc_str', vc_bool', List.length_set, List.length_append, Nat.lt_irrefl, Nat.lt_add_one, and_self, true_and, and_true, lenV, cellsOfSlice, Nat.le_refl, if_true , h40]
      apply AW_loop_inv (fun j e H1 => j ≤ l.length ∧ e = [(8, .slice b l.length z), (9, .int .i64 (l.length : Int)), (10, .int .i64 ((l.length - j : Nat) : Int))] ∧ Frm [] H H1 ∧ ∀ f ∈ l.take (l.length - j), f.s.size ≤ 200) _ l.length
      · exact ⟨Nat.le_refl _, by rw [Nat.sub_self]; rfl, Frm.refl _ _, by simp⟩
      · rintro j e H1 ⟨hj, rfl, hf, hall⟩
        cases j with
        | zero =>
          have g0 : ¬ (l.length : Int) < (l.length : Int) := by omega
          simp only [↓RW_seq, ↓AW_ret, ↓AW_skip, ↓AW_exit, ↓AW_block, ↓RW_cond, ↓RW_reg, ↓RW_regd, ↓RO_op, ↓RO_t, ↓RO_f, ↓RO_nt, ↓RO_nf, ↓AO_nil, ↓RD_op, ↓RD_t, ↓RD_f, ↓RD_nt, ↓RD_fe, ↓RD_nte, ↓RD_nf, ↓AOD_nil, CDops_eff, CDops_no, CDops_1, CDops_2, Again_nil, Again_cons, Same1_int, Same1_bool, Same1_str, Same1_ptr, Same1_slice, Same1_nil, CSeq_ap, CReg_ap, COps_ap, Then_normal, Then_ret, Then_exit, InBlock_normal, InBlock_ret, InBlock_self, InBlock_exit, Ends_ret, Ends_normal, ares, tup, finO_some, fin_same, fin_false, argsE, dval, aop, ev, evs, evo, evp, fillL, addrOf, intOf?, lk_put, lk_none, lk_cons, lk_nil, keep_nil, keep_cons, Op1_some, Option.map_some, Option.bind_some, reduceIte, Nat.reduceEqDiff, binV_lss, binV_leq, binV_gtr, binV_geq, binV_eql, binV_neq, binV_add, binV_sub, binV_mul, un_not, CondA_false, CondA_true, Bool.not_true, Bool.not_false, reduceCtorEq, decide_true, decide_false, Nat.add_zero, Nat.zero_add, Nat.reduceAdd, Nat.reduceMul, Bool.bne_false, Bool.bne_true, eqPtr, Option.isNone_some, Option.isNone_none, List.getElem?_cons_zero, List.getElem?_cons_succ, Option.isSome_none, Option.isSome_some , g0, Nat.sub_zero]
          have : fewB l = true := by
            simp only [fewB, Bool.and_eq_true, decide_eq_true_eq, List.all_eq_true]
            rw [Nat.sub_zero, List.take_length] at hall
            exact ⟨by omega, fun f hf => by simpa using hall f hf⟩
          rw [this] at hk
          exact hk _ hf
        | succ j =>
          have hi : l.length - (j + 1) < l.length := by omega
          obtain ⟨f, hfi⟩ : ∃ f, l[l.length - (j + 1)]? = some f := ⟨_, List.getElem?_eq_getElem hi⟩
          obtain ⟨q, rfl, rfl, hq⟩ := hb _ f hfi
          have hq1 : hget H1 q = some ⟨false, flat l⟩ := by rw [hf.2 q (hget_lt hq) (by simp)]; exact hq
          have g0 : ((l.length - (j + 1) : Nat) : Int) < (l.length : Int) := by omega
          have g1 : (0 : Int) ≤ ((l.length - (j + 1) : Nat) : Int) ∧ ((l.length - (j + 1) : Nat) : Int) < (l.length : Int) := by omega
          have g2 : (l.length - (j + 1)) * 4 + 4 ≤ (flat l).length := by rw [flat_length]; omega
          have g3 := flat_get l _ f hfi
          have g4 : IntKind.i64.wrap (((l.length - (j + 1) : Nat) : Int) + 1) = ((l.length - j : Nat) : Int) := by rw [wrap_i64 (by omega) (by omega)]; omega
          have g5 : f.cells.toArray = #[.int .i64 f.kind, .int .i64 f.width, .int .i64 f.n, .string f.s] := rfl
          by_cases h200 : (200 : Int) < (f.s.size : Int)
          · have : fewB l = false := by
              simp only [fewB, Bool.and_eq_false_iff, List.all_eq_false]
              exact .inr ⟨f, List.mem_of_getElem? hfi, by simp; omega⟩
            rw [this] at hk
            simp only [↓RW_seq, ↓AW_ret, ↓AW_skip, ↓AW_exit, ↓AW_block, ↓RW_cond, ↓RW_reg, ↓RW_regd, ↓RO_op, ↓RO_t, ↓RO_f, ↓RO_nt, ↓RO_nf, ↓AO_nil, ↓RD_op, ↓RD_t, ↓RD_f, ↓RD_nt, ↓RD_fe, ↓RD_nte, ↓RD_nf, ↓AOD_nil, CDops_eff, CDops_no, CDops_1, CDops_2, Again_nil, Again_cons, Same1_int, Same1_bool, Same1_str, Same1_ptr, Same1_slice, Same1_nil, CSeq_ap, CReg_ap, COps_ap, Then_normal, Then_ret, Then_exit, InBlock_normal, InBlock_ret, InBlock_self, InBlock_exit, Ends_ret, Ends_normal, ares, tup, finO_some, fin_same, fin_false, argsE, dval, aop, ev, evs, evo, evp, fillL, addrOf, intOf?, lk_put, lk_none, lk_cons, lk_nil, keep_nil, keep_cons, Op1_some, Option.map_some, Option.bind_some, reduceIte, Nat.reduceEqDiff, binV_lss, binV_leq, binV_gtr, binV_geq, binV_eql, binV_neq, binV_add, binV_sub, binV_mul, un_not, CondA_false, CondA_true, Bool.not_true, Bool.not_false, reduceCtorEq, decide_true, decide_false, Nat.add_zero, Nat.zero_add, Nat.reduceAdd, Nat.reduceMul, Bool.bne_false, Bool.bne_true, eqPtr, Option.isNone_some, Option.isNone_none, List.getElem?_cons_zero, List.getElem?_cons_succ, Option.isSome_none, Option.isSome_some , hload, hstore, List.length_cons, List.length_nil, Nat.reduceAdd, Nat.reduceLeDiff, decide_true, List.all_cons, List.all_nil, one, Bool.and_true, Bool.true_and, Bool.and_self, splice, List.set_cons_zero, List.set_cons_succ, List.getElem?_cons_zero, List.getElem?_cons_succ, vc_int, vc_slice, vc_str, vc_bool, vc_int', vc_slice', vc_str', vc_bool', List.length_set, List.length_append, Nat.lt_irrefl, Nat.lt_add_one, and_self, true_and, and_true, lenV, cellsOfSlice, Nat.le_refl, if_true , g0, g1, Int.toNat_natCast, hq1, g2, g3, g5, vc_agg', size4, hget_append_self, set_last, h200]
            exact hk _ (hf.push _)
          · simp only [↓RW_seq, ↓AW_ret, ↓AW_skip, ↓AW_exit, ↓AW_block, ↓RW_cond, ↓RW_reg, ↓RW_regd, ↓RO_op, ↓RO_t, ↓RO_f, ↓RO_nt, ↓RO_nf, ↓AO_nil, ↓RD_op, ↓RD_t, ↓RD_f, ↓RD_nt, ↓RD_fe, ↓RD_nte, ↓RD_nf, ↓AOD_nil, CDops_eff, CDops_no, CDops_1, CDops_2, Again_nil, Again_cons, Same1_int, Same1_bool, Same1_str, Same1_ptr, Same1_slice, Same1_nil, CSeq_ap, CReg_ap, COps_ap, Then_normal, Then_ret, Then_exit, InBlock_normal, InBlock_ret, InBlock_self, InBlock_exit, Ends_ret, Ends_normal, ares, tup, finO_some, fin_same, fin_false, argsE, dval, aop, ev, evs, evo, evp, fillL, addrOf, intOf?, lk_put, lk_none, lk_cons, lk_nil, keep_nil, keep_cons, Op1_some, Option.map_some, Option.bind_some, reduceIte, Nat.reduceEqDiff, binV_lss, binV_leq, binV_gtr, binV_geq, binV_eql, binV_neq, binV_add, binV_sub, binV_mul, un_not, CondA_false, CondA_true, Bool.not_true, Bool.not_false, reduceCtorEq, decide_true, decide_false, Nat.add_zero, Nat.zero_add, Nat.reduceAdd, Nat.reduceMul, Bool.bne_false, Bool.bne_true, eqPtr, Option.isNone_some, Option.isNone_none, List.getElem?_cons_zero, List.getElem?_cons_succ, Option.isSome_none, Option.isSome_some , hload, hstore, List.length_cons, List.length_nil, Nat.reduceAdd, Nat.reduceLeDiff, decide_true, List.all_cons, List.all_nil, one, Bool.and_true, Bool.true_and, Bool.and_self, splice, List.set_cons_zero, List.set_cons_succ, List.getElem?_cons_zero, List.getElem?_cons_succ, vc_int, vc_slice, vc_str, vc_bool, vc_int', vc_slice', vc_str', vc_bool', List.length_set, List.length_append, Nat.lt_irrefl, Nat.lt_add_one, and_self, true_and, and_true, lenV, cellsOfSlice, Nat.le_refl, if_true , g0, g1, Int.toNat_natCast, hq1, g2, g3, g5, vc_agg', size4, hget_append_self, set_last, h200, g4]
            refine ⟨j, by omega, by omega, rfl, hf.push _, fun x hx => ?_⟩
            rw [show l.length - j = l.length - (j + 1) + 1 by omega, List.take_add_one, hfi] at hx
            rcases List.mem_append.1 hx with hx | hx
            · exact hall x hx
            · simp at hx; subst hx; omega
  rcases h with ⟨rfl, rfl⟩ | ⟨b, rfl, hb⟩
  · exact main none 0 rfl (fun i f hi => by simp at hi)
  · refine main _ _ rfl fun i f hi => ⟨b, rfl, rfl, ?_⟩
    rcases hb with rfl | hb
    · simp at hi
    · exact hb

end Go.Proofs.Ytlbhbjaimcinbaa.AI
