/- How the law reads a field. -/
import Derived.Test.YtlbhbjaimcinbaaM1
set_option linter.unusedSimpArgs false
namespace Go.Proofs.Ytlbhbjaimcinbaa.AI
open Go

theorem take4 (a b c d : Value) : List.take 4 (List.drop 0 [a, b, c, d]) = [a, b, c, d] := rfl
theorem size4 (a b c d : Value) : (#[a, b, c, d] : Array Value).size = 4 := rfl
theorem list4 (a b c d : Value) : [a, b, c, d].toArray = #[a, b, c, d] := rfl

theorem read_spec {H : Heap} {p : Nat} {r : RS} {f : Fld} (h : RSt H p r) (ho : r.Ok) (hf : f.Ok) {K : Value → Heap → Prop}
    (hk : ∀ H', RSt H' p (r.read f).2 → Frm [p] H H' → K (r.read f).1.v H') : Op1 (AC tbl 22 [.pointer (some ⟨p, 0, none⟩), f.v] H) K := by
  apply AC_wp (F := F22) rfl (by simp [F22]) (.inl rfl)
  have hpl := h.lt
  -- the memory with the two local blocks
  generalize hG : H ++ [some ⟨true, [.int .i64 f.kind, .int .i64 f.width, .int .i64 f.n, .string f.s]⟩] ++ [some (⟨true, [.int .i64 0, .int .i64 0, .int .i64 0, .string ⟨#[]⟩]⟩ : Blk)] = G
  have hGl : G.length = H.length + 2 := by rw [← hG]; simp
  have hG3 : hget G H.length = some ⟨true, [.int .i64 f.kind, .int .i64 f.width, .int .i64 f.n, .string f.s]⟩ := by
    rw [← hG, hget_append_lt (by simp), hget_append_self]
  have hG4 : hget G (H.length + 1) = some ⟨true, [.int .i64 0, .int .i64 0, .int .i64 0, .string ⟨#[]⟩]⟩ := by
    rw [← hG, hget_app]; simp
  have hGp : RSt G p r := by
    unfold RSt; rw [← hG, hget_append_lt (by simp; omega), hget_append_lt hpl]; exact h
  have hGf : Frm [] H G := by rw [← hG]; exact ((Frm.refl _ _).push _).push _
  have ne1 : H.length ≠ H.length + 1 := by omega
  have ne2 : H.length + 1 ≠ H.length := by omega
  have np1 : H.length ≠ p := by omega
  have np2 : H.length + 1 ≠ p := by omega
  -- what is known of a memory behind the call
  have known : ∀ H', Frm [p] G H' → hget H' H.length = some ⟨true, [.int .i64 f.kind, .int .i64 f.width, .int .i64 f.n, .string f.s]⟩ ∧ hget H' (H.length + 1) = some ⟨true, [.int .i64 0, .int .i64 0, .int .i64 0, .string ⟨#[]⟩]⟩ ∧ H.length < H'.length ∧ H.length + 1 < H'.length := by
    intro H' hf'
    have := hf'.1
    exact ⟨by rw [hf'.2 _ (by omega) (by simpa using np1)]; exact hG3, by rw [hf'.2 _ (by omega) (by simpa using np2)]; exact hG4, by omega, by omega⟩
  have fin' : ∀ (H' : Heap) (a b : Option Blk) (r' : RS), RSt H' p r' → Frm [p] G H' → RSt ((H'.set H.length a).set (H.length + 1) b) p r' ∧ Frm [p] H ((H'.set H.length a).set (H.length + 1) b) := by
    intro H' a b r' h1 h2
    refine ⟨by unfold RSt; rw [hget_set_ne np2, hget_set_ne np1]; exact h1, ?_⟩
    refine (((hGf.mono (by simp)).trans h2 (fun i hi => .inl hi)).set _ (.inr (Nat.le_refl _))).set _ (.inr (by omega))
  by_cases h0 : f.kind = 0
  · have e := runsigned_spec (w := f.width) hGp ho
    have hrs := setR_st hGp.lt (r.unsigned f.width).2
    have hrf := setR_frm G p (r.unsigned f.width).2
    rw [show r.read f = ({ f with n := (r.unsigned f.width).1, s := ⟨#[]⟩ }, (r.unsigned f.width).2) by simp [RS.read, h0]] at hk
    generalize setR G p (r.unsigned f.width).2 = H' at *
    obtain ⟨q3, q4, l3, l4⟩ := known H' hrf
    rw [h0] at hG hG3 q3 hk
    simp only [F22, Fld.v, ↓RW_seq, ↓AW_ret, ↓AW_skip, ↓AW_exit, ↓AW_block, ↓RW_cond, ↓RW_reg, ↓RW_regd, ↓RO_op, ↓RO_t, ↓RO_f, ↓RO_nt, ↓RO_nf, ↓AO_nil, ↓RD_op, ↓RD_t, ↓RD_f, ↓RD_nt, ↓RD_fe, ↓RD_nte, ↓RD_nf, ↓AOD_nil, CDops_eff, CDops_no, CDops_1, CDops_2, Again_nil, Again_cons, Same1_int, Same1_bool, Same1_str, Same1_ptr, Same1_slice, Same1_nil, CSeq_ap, CReg_ap, COps_ap, Then_normal, Then_ret, Then_exit, InBlock_normal, InBlock_ret, InBlock_self, InBlock_exit, Ends_ret, Ends_normal, ares, tup, finO_some, fin_same, fin_false, argsE, dval, aop, ev, evs, evo, evp, fillL, addrOf, intOf?, lk_put, lk_none, lk_cons, lk_nil, keep_nil, keep_cons, Op1_some, Option.map_some, Option.bind_some, reduceIte, Nat.reduceEqDiff, binV_lss, binV_leq, binV_gtr, binV_geq, binV_eql, binV_neq, binV_add, binV_sub, binV_mul, un_not, CondA_false, CondA_true, Bool.not_true, Bool.not_false, reduceCtorEq, decide_true, decide_false, Nat.add_zero, Nat.zero_add, Nat.reduceAdd, Nat.reduceMul, Bool.bne_false, Bool.bne_true, eqPtr, Option.isNone_some, Option.isNone_none, List.getElem?_cons_zero, List.getElem?_cons_succ, Option.isSome_none, Option.isSome_some , hload, hstore, List.length_cons, List.length_nil, Nat.reduceAdd, Nat.reduceLeDiff, decide_true, List.all_cons, List.all_nil, one, Bool.and_true, Bool.true_and, Bool.and_self, splice, List.set_cons_zero, List.set_cons_succ, List.getElem?_cons_zero, List.getElem?_cons_succ, vc_int, vc_slice, vc_str, vc_bool, vc_int', vc_slice', vc_str', vc_bool', List.length_set, List.length_append, Nat.lt_irrefl, Nat.lt_add_one, and_self, true_and, and_true, lenV, cellsOfSlice, Nat.le_refl, if_true , vc_agg', hG, hG3, h0, e, q3, q4, hget_set_self, hget_set_ne, l3, l4, ne1, ne2, ne_eq, not_false_eq_true, List.set_set, take4, size4, list4]
    exact hk _ (fin' H' _ _ _ hrs hrf).1 (fin' H' _ _ _ hrs hrf).2
  · by_cases h1 : f.kind = 1
    · have e := rsigned_spec (w := f.width) hGp ho
      have hrs := setR_st hGp.lt (r.signed f.width).2
      have hrf := setR_frm G p (r.signed f.width).2
      rw [show r.read f = ({ f with n := (r.signed f.width).1, s := ⟨#[]⟩ }, (r.signed f.width).2) by simp [RS.read, h1]] at hk
      generalize setR G p (r.signed f.width).2 = H' at *
      obtain ⟨q3, q4, l3, l4⟩ := known H' hrf
      rw [h1] at hG hG3 q3 hk
      have n0 : ¬ (1 : Int) = 0 := by omega
      simp only [F22, Fld.v, ↓RW_seq, ↓AW_ret, ↓AW_skip, ↓AW_exit, ↓AW_block, ↓RW_cond, ↓RW_reg, ↓RW_regd, ↓RO_op, ↓RO_t, ↓RO_f, ↓RO_nt, ↓RO_nf, ↓AO_nil, ↓RD_op, ↓RD_t, ↓RD_f, ↓RD_nt, ↓RD_fe, ↓RD_nte, ↓RD_nf, ↓AOD_nil, CDops_eff, CDops_no, CDops_1, CDops_2, Again_nil, Again_cons, Same1_int, Same1_bool, Same1_str, Same1_ptr, Same1_slice, Same1_nil, CSeq_ap, CReg_ap, COps_ap, Then_normal, Then_ret, Then_exit, InBlock_normal, InBlock_ret, InBlock_self, InBlock_exit, Ends_ret, Ends_normal, ares, tup, finO_some, fin_same, fin_false, argsE, dval, aop, ev, evs, evo, evp, fillL, addrOf, intOf?, lk_put, lk_none, lk_cons, lk_nil, keep_nil, keep_cons, Op1_some, Option.map_some, Option.bind_some, reduceIte, Nat.reduceEqDiff, binV_lss, binV_leq, binV_gtr, binV_geq, binV_eql, binV_neq, binV_add, binV_sub, binV_mul, un_not, CondA_false, CondA_true, Bool.not_true, Bool.not_false, reduceCtorEq, decide_true, decide_false, Nat.add_zero, Nat.zero_add, Nat.reduceAdd, Nat.reduceMul, Bool.bne_false, Bool.bne_true, eqPtr, Option.isNone_some, Option.isNone_none, List.getElem?_cons_zero, List.getElem?_cons_succ, Option.isSome_none, Option.isSome_some , hload, hstore, List.length_cons, List.length_nil, Nat.reduceAdd, Nat.reduceLeDiff, decide_true, List.all_cons, List.all_nil, one, Bool.and_true, Bool.true_and, Bool.and_self, splice, List.set_cons_zero, List.set_cons_succ, List.getElem?_cons_zero, List.getElem?_cons_succ, vc_int, vc_slice, vc_str, vc_bool, vc_int', vc_slice', vc_str', vc_bool', List.length_set, List.length_append, Nat.lt_irrefl, Nat.lt_add_one, and_self, true_and, and_true, lenV, cellsOfSlice, Nat.le_refl, if_true , vc_agg', hG, hG3, h1, n0, e, q3, q4, hget_set_self, hget_set_ne, l3, l4, ne1, ne2, ne_eq, not_false_eq_true, List.set_set, take4, size4, list4]
      exact hk _ (fin' H' _ _ _ hrs hrf).1 (fin' H' _ _ _ hrs hrf).2
    · by_cases h2 : f.kind = 2
      · have n0 : ¬ (2 : Int) = 0 := by omega
        have n1 : ¬ (2 : Int) = 1 := by omega
        have hgl : H.length < G.length := by omega
        have hG2p : RSt (G.set H.length (some ⟨true, [.int .i64 2, .int .i64 0, .int .i64 0, .string ⟨#[]⟩]⟩)) p r := by
          unfold RSt; rw [hget_set_ne np1]; exact hGp
        have e := rflag_spec hG2p ho
        have hrs := setR_st hG2p.lt r.flag.2
        have hrf0 := setR_frm (G.set H.length (some ⟨true, [.int .i64 2, .int .i64 0, .int .i64 0, .string ⟨#[]⟩]⟩)) p r.flag.2
        rw [show r.read f = (⟨f.kind, 0, if r.flag.1 then 1 else 0, ⟨#[]⟩⟩, r.flag.2) by simp [RS.read, h2]] at hk
        generalize setR (G.set H.length (some ⟨true, [.int .i64 2, .int .i64 0, .int .i64 0, .string ⟨#[]⟩]⟩)) p r.flag.2 = H' at *
        have q3 : hget H' H.length = some ⟨true, [.int .i64 2, .int .i64 0, .int .i64 0, .string ⟨#[]⟩]⟩ := by
          rw [hrf0.2 _ (by simp; omega) (by simpa using np1), hget_set_self hgl]
        have q4 : hget H' (H.length + 1) = some ⟨true, [.int .i64 0, .int .i64 0, .int .i64 0, .string ⟨#[]⟩]⟩ := by
          rw [hrf0.2 _ (by simp; omega) (by simpa using np2), hget_set_ne ne1]; exact hG4
        have l3 : H.length < H'.length := by have := hrf0.1; simp at this; omega
        have l4 : H.length + 1 < H'.length := by have := hrf0.1; simp at this; omega
        have fin2 : ∀ (a b : Option Blk), RSt ((H'.set H.length a).set (H.length + 1) b) p r.flag.2 ∧ Frm [p] H ((H'.set H.length a).set (H.length + 1) b) := by
          intro a b
          refine ⟨by unfold RSt; rw [hget_set_ne np2, hget_set_ne np1]; exact hrs, ?_⟩
          refine (((Frm.set (hGf.mono (by simp)) _ (.inr (Nat.le_refl _))).trans hrf0 (fun i hi => .inl hi)).set _ (.inr (Nat.le_refl _))).set _ (.inr (by omega))
        have fin3 : ∀ (b : Option Blk), RSt (H'.set (H.length + 1) b) p r.flag.2 ∧ Frm [p] H (H'.set (H.length + 1) b) := by
          intro b
          refine ⟨by unfold RSt; rw [hget_set_ne np2]; exact hrs, ?_⟩
          refine ((Frm.set (hGf.mono (by simp)) _ (.inr (Nat.le_refl _))).trans hrf0 (fun i hi => .inl hi)).set _ (.inr (by omega))
        rw [h2] at hG hG3 hk
        cases hb : r.flag.1 with
        | true =>
          rw [hb] at hk e
          simp only [F22, Fld.v, ↓RW_seq, ↓AW_ret, ↓AW_skip, ↓AW_exit, ↓AW_block, ↓RW_cond, ↓RW_reg, ↓RW_regd, ↓RO_op, ↓RO_t, ↓RO_f, ↓RO_nt, ↓RO_nf, ↓AO_nil, ↓RD_op, ↓RD_t, ↓RD_f, ↓RD_nt, ↓RD_fe, ↓RD_nte, ↓RD_nf, ↓AOD_nil, CDops_eff, CDops_no, CDops_1, CDops_2, Again_nil, Again_cons, Same1_int, Same1_bool, Same1_str, Same1_ptr, Same1_slice, Same1_nil, CSeq_ap, CReg_ap, COps_ap, Then_normal, Then_ret, Then_exit, InBlock_normal, InBlock_ret, InBlock_self, InBlock_exit, Ends_ret, Ends_normal, ares, tup, finO_some, fin_same, fin_false, argsE, dval, aop, ev, evs, evo, evp, fillL, addrOf, intOf?, lk_put, lk_none, lk_cons, lk_nil, keep_nil, keep_cons, Op1_some, Option.map_some, Option.bind_some, reduceIte, Nat.reduceEqDiff, binV_lss, binV_leq, binV_gtr, binV_geq, binV_eql, binV_neq, binV_add, binV_sub, binV_mul, un_not, CondA_false, CondA_true, Bool.not_true, Bool.not_false, reduceCtorEq, decide_true, decide_false, Nat.add_zero, Nat.zero_add, Nat.reduceAdd, Nat.reduceMul, Bool.bne_false, Bool.bne_true, eqPtr, Option.isNone_some, Option.isNone_none, List.getElem?_cons_zero, List.getElem?_cons_succ, Option.isSome_none, Option.isSome_some , hload, hstore, List.length_cons, List.length_nil, Nat.reduceAdd, Nat.reduceLeDiff, decide_true, List.all_cons, List.all_nil, one, Bool.and_true, Bool.true_and, Bool.and_self, splice, List.set_cons_zero, List.set_cons_succ, List.getElem?_cons_zero, List.getElem?_cons_succ, vc_int, vc_slice, vc_str, vc_bool, vc_int', vc_slice', vc_str', vc_bool', List.length_set, List.length_append, Nat.lt_irrefl, Nat.lt_add_one, and_self, true_and, and_true, lenV, cellsOfSlice, Nat.le_refl, if_true , vc_agg', hG, hG3, h2, n0, n1, e, q3, q4, hget_set_self, hget_set_ne, l3, l4, hgl, ne1, ne2, ne_eq, not_false_eq_true, List.set_set, take4, size4, list4]
          exact hk _ (fin2 _ _).1 (fin2 _ _).2
        | false =>
          rw [hb] at hk e
          simp only [F22, Fld.v, ↓RW_seq, ↓AW_ret, ↓AW_skip, ↓AW_exit, ↓AW_block, ↓RW_cond, ↓RW_reg, ↓RW_regd, ↓RO_op, ↓RO_t, ↓RO_f, ↓RO_nt, ↓RO_nf, ↓AO_nil, ↓RD_op, ↓RD_t, ↓RD_f, ↓RD_nt, ↓RD_fe, ↓RD_nte, ↓RD_nf, ↓AOD_nil, CDops_eff, CDops_no, CDops_1, CDops_2, Again_nil, Again_cons, Same1_int, Same1_bool, Same1_str, Same1_ptr, Same1_slice, Same1_nil, CSeq_ap, CReg_ap, COps_ap, Then_normal, Then_ret, Then_exit, InBlock_normal, InBlock_ret, InBlock_self, InBlock_exit, Ends_ret, Ends_normal, ares, tup, finO_some, fin_same, fin_false, argsE, dval, aop, ev, evs, evo, evp, fillL, addrOf, intOf?, lk_put, lk_none, lk_cons, lk_nil, keep_nil, keep_cons, Op1_some, Option.map_some, Option.bind_some, reduceIte, Nat.reduceEqDiff, binV_lss, binV_leq, binV_gtr, binV_geq, binV_eql, binV_neq, binV_add, binV_sub, binV_mul, un_not, CondA_false, CondA_true, Bool.not_true, Bool.not_false, reduceCtorEq, decide_true, decide_false, Nat.add_zero, Nat.zero_add, Nat.reduceAdd, Nat.reduceMul, Bool.bne_false, Bool.bne_true, eqPtr, Option.isNone_some, Option.isNone_none, List.getElem?_cons_zero, List.getElem?_cons_succ, Option.isSome_none, Option.isSome_some , hload, hstore, List.length_cons, List.length_nil, Nat.reduceAdd, Nat.reduceLeDiff, decide_true, List.all_cons, List.all_nil, one, Bool.and_true, Bool.true_and, Bool.and_self, splice, List.set_cons_zero, List.set_cons_succ, List.getElem?_cons_zero, List.getElem?_cons_succ, vc_int, vc_slice, vc_str, vc_bool, vc_int', vc_slice', vc_str', vc_bool', List.length_set, List.length_append, Nat.lt_irrefl, Nat.lt_add_one, and_self, true_and, and_true, lenV, cellsOfSlice, Nat.le_refl, if_true , vc_agg', hG, hG3, h2, n0, n1, e, q3, q4, hget_set_self, hget_set_ne, l3, l4, hgl, ne1, ne2, ne_eq, not_false_eq_true, List.set_set, take4, size4, list4]
          exact hk _ (fin3 _).1 (fin3 _).2
      · by_cases h3 : f.kind = 3
        · have n0 : ¬ (3 : Int) = 0 := by omega
          have n1 : ¬ (3 : Int) = 1 := by omega
          have n2 : ¬ (3 : Int) = 2 := by omega
          rw [show r.read f = ({ f with n := 0, s := (r.text f.width).1 }, (r.text f.width).2) by simp [RS.read, h3]] at hk
          have known3 := known
          rw [h3] at hG hG3 hk
          simp only [F22, Fld.v, ↓RW_seq, ↓AW_ret, ↓AW_skip, ↓AW_exit, ↓AW_block, ↓RW_cond, ↓RW_reg, ↓RW_regd, ↓RO_op, ↓RO_t, ↓RO_f, ↓RO_nt, ↓RO_nf, ↓AO_nil, ↓RD_op, ↓RD_t, ↓RD_f, ↓RD_nt, ↓RD_fe, ↓RD_nte, ↓RD_nf, ↓AOD_nil, CDops_eff, CDops_no, CDops_1, CDops_2, Again_nil, Again_cons, Same1_int, Same1_bool, Same1_str, Same1_ptr, Same1_slice, Same1_nil, CSeq_ap, CReg_ap, COps_ap, Then_normal, Then_ret, Then_exit, InBlock_normal, InBlock_ret, InBlock_self, InBlock_exit, Ends_ret, Ends_normal, ares, tup, finO_some, fin_same, fin_false, argsE, dval, aop, ev, evs, evo, evp, fillL, addrOf, intOf?, lk_put, lk_none, lk_cons, lk_nil, keep_nil, keep_cons, Op1_some, Option.map_some, Option.bind_some, reduceIte, Nat.reduceEqDiff, binV_lss, binV_leq, binV_gtr, binV_geq, binV_eql, binV_neq, binV_add, binV_sub, binV_mul, un_not, CondA_false, CondA_true, Bool.not_true, Bool.not_false, reduceCtorEq, decide_true, decide_false, Nat.add_zero, Nat.zero_add, Nat.reduceAdd, Nat.reduceMul, Bool.bne_false, Bool.bne_true, eqPtr, Option.isNone_some, Option.isNone_none, List.getElem?_cons_zero, List.getElem?_cons_succ, Option.isSome_none, Option.isSome_some , hload, hstore, List.length_cons, List.length_nil, Nat.reduceAdd, Nat.reduceLeDiff, decide_true, List.all_cons, List.all_nil, one, Bool.and_true, Bool.true_and, Bool.and_self, splice, List.set_cons_zero, List.set_cons_succ, List.getElem?_cons_zero, List.getElem?_cons_succ, vc_int, vc_slice, vc_str, vc_bool, vc_int', vc_slice', vc_str', vc_bool', List.length_set, List.length_append, Nat.lt_irrefl, Nat.lt_add_one, and_self, true_and, and_true, lenV, cellsOfSlice, Nat.le_refl, if_true , vc_agg', hG, hG3, h3, n0, n1, n2]
          refine rtext_spec hGp ho hf.width fun H' hrs hrf => ?_
          obtain ⟨q3, q4, l3, l4⟩ := known3 H' hrf
          rw [h3] at q3
          simp only [↓RW_seq, ↓AW_ret, ↓AW_skip, ↓AW_exit, ↓AW_block, ↓RW_cond, ↓RW_reg, ↓RW_regd, ↓RO_op, ↓RO_t, ↓RO_f, ↓RO_nt, ↓RO_nf, ↓AO_nil, ↓RD_op, ↓RD_t, ↓RD_f, ↓RD_nt, ↓RD_fe, ↓RD_nte, ↓RD_nf, ↓AOD_nil, CDops_eff, CDops_no, CDops_1, CDops_2, Again_nil, Again_cons, Same1_int, Same1_bool, Same1_str, Same1_ptr, Same1_slice, Same1_nil, CSeq_ap, CReg_ap, COps_ap, Then_normal, Then_ret, Then_exit, InBlock_normal, InBlock_ret, InBlock_self, InBlock_exit, Ends_ret, Ends_normal, ares, tup, finO_some, fin_same, fin_false, argsE, dval, aop, ev, evs, evo, evp, fillL, addrOf, intOf?, lk_put, lk_none, lk_cons, lk_nil, keep_nil, keep_cons, Op1_some, Option.map_some, Option.bind_some, reduceIte, Nat.reduceEqDiff, binV_lss, binV_leq, binV_gtr, binV_geq, binV_eql, binV_neq, binV_add, binV_sub, binV_mul, un_not, CondA_false, CondA_true, Bool.not_true, Bool.not_false, reduceCtorEq, decide_true, decide_false, Nat.add_zero, Nat.zero_add, Nat.reduceAdd, Nat.reduceMul, Bool.bne_false, Bool.bne_true, eqPtr, Option.isNone_some, Option.isNone_none, List.getElem?_cons_zero, List.getElem?_cons_succ, Option.isSome_none, Option.isSome_some , hload, hstore, List.length_cons, List.length_nil, Nat.reduceAdd, Nat.reduceLeDiff, decide_true, List.all_cons, List.all_nil, one, Bool.and_true, Bool.true_and, Bool.and_self, splice, List.set_cons_zero, List.set_cons_succ, List.getElem?_cons_zero, List.getElem?_cons_succ, vc_int, vc_slice, vc_str, vc_bool, vc_int', vc_slice', vc_str', vc_bool', List.length_set, List.length_append, Nat.lt_irrefl, Nat.lt_add_one, and_self, true_and, and_true, lenV, cellsOfSlice, Nat.le_refl, if_true , vc_agg', q3, q4, hget_set_self, hget_set_ne, l3, l4, ne1, ne2, ne_eq, not_false_eq_true, List.set_set, take4, size4, list4]
          exact hk _ (fin' H' _ _ _ hrs hrf).1 (fin' H' _ _ _ hrs hrf).2
        · rw [show r.read f = (f, r) by simp [RS.read, h0, h1, h2, h3]] at hk
          have hgl1 : H.length + 1 < G.length := by omega
          simp only [F22, Fld.v, ↓RW_seq, ↓AW_ret, ↓AW_skip, ↓AW_exit, ↓AW_block, ↓RW_cond, ↓RW_reg, ↓RW_regd, ↓RO_op, ↓RO_t, ↓RO_f, ↓RO_nt, ↓RO_nf, ↓AO_nil, ↓RD_op, ↓RD_t, ↓RD_f, ↓RD_nt, ↓RD_fe, ↓RD_nte, ↓RD_nf, ↓AOD_nil, CDops_eff, CDops_no, CDops_1, CDops_2, Again_nil, Again_cons, Same1_int, Same1_bool, Same1_str, Same1_ptr, Same1_slice, Same1_nil, CSeq_ap, CReg_ap, COps_ap, Then_normal, Then_ret, Then_exit, InBlock_normal, InBlock_ret, InBlock_self, InBlock_exit, Ends_ret, Ends_normal, ares, tup, finO_some, fin_same, fin_false, argsE, dval, aop, ev, evs, evo, evp, fillL, addrOf, intOf?, lk_put, lk_none, lk_cons, lk_nil, keep_nil, keep_cons, Op1_some, Option.map_some, Option.bind_some, reduceIte, Nat.reduceEqDiff, binV_lss, binV_leq, binV_gtr, binV_geq, binV_eql, binV_neq, binV_add, binV_sub, binV_mul, un_not, CondA_false, CondA_true, Bool.not_true, Bool.not_false, reduceCtorEq, decide_true, decide_false, Nat.add_zero, Nat.zero_add, Nat.reduceAdd, Nat.reduceMul, Bool.bne_false, Bool.bne_true, eqPtr, Option.isNone_some, Option.isNone_none, List.getElem?_cons_zero, List.getElem?_cons_succ, Option.isSome_none, Option.isSome_some , hload, hstore, List.length_cons, List.length_nil, Nat.reduceAdd, Nat.reduceLeDiff, decide_true, List.all_cons, List.all_nil, one, Bool.and_true, Bool.true_and, Bool.and_self, splice, List.set_cons_zero, List.set_cons_succ, List.getElem?_cons_zero, List.getElem?_cons_succ, vc_int, vc_slice, vc_str, vc_bool, vc_int', vc_slice', vc_str', vc_bool', List.length_set, List.length_append, Nat.lt_irrefl, Nat.lt_add_one, and_self, true_and, and_true, lenV, cellsOfSlice, Nat.le_refl, if_true , vc_agg', hG, hG3, hG4, h0, h1, h2, h3, hget_set_self, hgl1, take4, size4, list4]
          refine hk _ (by unfold RSt; rw [hget_set_ne np2]; exact hGp) ((hGf.mono (by simp)).set _ (.inr (by omega)))

end Go.Proofs.Ytlbhbjaimcinbaa.AI
