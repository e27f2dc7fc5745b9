/- The writer's texts. -/
import Derived.Test.YtlbhbjaimcinbaaW3
set_option linter.unusedSimpArgs false
namespace Go.Proofs.Ytlbhbjaimcinbaa.AI
open Go

/-- A text's bits from byte i on. -/
def textBits (t : ByteArray) : List Bool := (t.data.toList.map fun b => bitsOf 8 b.toNat).flatten
def WS.text (s : WS) (most : Int) (t : ByteArray) : WS :=
  if s.err ≠ 0 then s else if lim most = false then ⟨s.bs, 1⟩
  else if most < (t.size : Int) ∨ 524288 < (s.bs.length : Int) + wd most + 8 * t.size then ⟨s.bs, 8⟩
  else ⟨s.bs ++ bitsOf (wd most) t.size ++ textBits t, s.err⟩

theorem size_list (t : ByteArray) : t.data.toList.length = t.size := by rw [Array.length_toList]; rfl
def textPre (t : ByteArray) (i : Nat) : List Bool := ((t.data.toList.take i).map fun b => bitsOf 8 b.toNat).flatten
theorem textPre_all (t : ByteArray) : textPre t t.size = textBits t := by
  unfold textPre textBits
  rw [← size_list, List.take_length]
theorem textPre_succ (t : ByteArray) (i : Nat) (b : UInt8) (h : t.data.toList[i]? = some b) : textPre t (i + 1) = textPre t i ++ bitsOf 8 b.toNat := by
  unfold textPre
  rw [List.take_add_one, h]
  simp
theorem textPre_length (t : ByteArray) (i : Nat) (h : i ≤ t.size) : (textPre t i).length = 8 * i := by
  induction i with
  | zero => simp [textPre]
  | succ i ih =>
    have hi : i < t.data.toList.length := by rw [size_list]; omega
    rw [textPre_succ t i _ (List.getElem?_eq_getElem hi), List.length_append, ih (by omega), bitsOf_length]; omega
theorem byte_get (t : ByteArray) (i : Nat) (h : i < t.size) : ∃ b : UInt8, t[i]? = some b ∧ t.data.toList[i]? = some b := by
  have hi : i < t.data.toList.length := by rw [size_list]; exact h
  refine ⟨t.data.toList[i], ?_, List.getElem?_eq_getElem hi⟩
  rw [getElem?_pos t i h]; rfl

theorem wd_le {n : Int} (h : n < 9223372036854775808) : wd n ≤ 63 := by
  unfold wd; split
  · omega
  · have := (@blen_le n.toNat 63).2 (by omega); omega

theorem text_spec {H : Heap} {p : Nat} {o : Option Nat} {s : WS} {most : Int} {t : ByteArray} (h : WSt H p o s.bs s.err) (hlen : s.bs.length ≤ 524288) (hm : Is64 most) (ht : t.size ≤ 1000000000000000) {K : Value → Heap → Prop}
    (hk : Wrote H p o (s.text most t) K) : Op1 (AC tbl 38 [.pointer (some ⟨p, 0, none⟩), .int .i64 most, .string t] H) K := by
  apply AC_wp (F := F38) rfl (by simp [F38]) (.inl rfl)
  obtain ⟨d, hr, hb, hd⟩ := h.ex
  have hp := hr.blk
  have hpl := hget_lt hp
  have setE : ∀ err', s.text most t = ⟨s.bs, err'⟩ → K (.tuple #[]) (H.set p (some ⟨true, [sliceOf o d, .int .i64 (s.bs.length : Int), .int .i64 err']⟩)) := fun err' he => by
    refine hk _ o ?_ ((Frm.refl _ _).set _ (by simp)) (fun q hq => .inl hq)
    rw [he]
    exact ⟨d, hr.setErr err', hb, hd⟩
  have hwd := wd_le (n := most) hm.2
  by_cases h1 : s.err = 0
  · have c1 : decide (s.err ≠ 0) = false := by simp [h1]
    cases h2 : lim most with
    | false =>
      simp only [F38, ↓RW_seq, ↓AW_ret, ↓AW_skip, ↓AW_exit, ↓AW_block, ↓RW_cond, ↓RW_reg, ↓RW_regd, ↓RO_op, ↓RO_t, ↓RO_f, ↓RO_nt, ↓RO_nf, ↓AO_nil, ↓RD_op, ↓RD_t, ↓RD_f, ↓RD_nt, ↓RD_fe, ↓RD_nte, ↓RD_nf, ↓AOD_nil, CDops_eff, CDops_no, CDops_1, CDops_2, Again_nil, Again_cons, Same1_int, Same1_bool, Same1_str, Same1_ptr, Same1_slice, Same1_nil, CSeq_ap, CReg_ap, COps_ap, Then_normal, Then_ret, Then_exit, InBlock_normal, InBlock_ret, InBlock_self, InBlock_exit, Ends_ret, Ends_normal, ares, tup, finO_some, fin_same, fin_false, argsE, dval, aop, ev, evs, evo, evp, fillL, addrOf, intOf?, lk_put, lk_none, lk_cons, lk_nil, keep_nil, keep_cons, Op1_some, Option.map_some, Option.bind_some, reduceIte, Nat.reduceEqDiff, binV_lss, binV_leq, binV_gtr, binV_geq, binV_eql, binV_neq, binV_add, binV_sub, binV_mul, un_not, CondA_false, CondA_true, Bool.not_true, Bool.not_false, reduceCtorEq, decide_true, decide_false, Nat.add_zero, Nat.zero_add, Nat.reduceAdd, Nat.reduceMul , hload, hstore, List.length_cons, List.length_nil, Nat.reduceAdd, Nat.reduceLeDiff, decide_true, List.all_cons, List.all_nil, one, Bool.and_true, Bool.true_and, Bool.and_self, splice, List.set_cons_zero, List.set_cons_succ, List.getElem?_cons_zero, List.getElem?_cons_succ, vc_int, vc_slice, vc_str, vc_bool, vc_int', vc_slice', vc_str', vc_bool', List.length_set, List.length_append, Nat.lt_irrefl, Nat.lt_add_one, and_self, true_and, and_true, lenV, cellsOfSlice, Nat.le_refl, if_true , hp, c1, limit, h2]
      exact setE 1 (by simp [WS.text, h1, h2])
    | true =>
      have hw1 : IntKind.i64.wrap (8 * (t.size : Int)) = 8 * (t.size : Int) := wrap_i64 (by omega) (by omega)
      have hw2 : IntKind.i64.wrap ((s.bs.length : Int) + (wd most : Int)) = (s.bs.length : Int) + (wd most : Int) := wrap_i64 (by omega) (by omega)
      have hw3 : IntKind.i64.wrap ((s.bs.length : Int) + (wd most : Int) + 8 * (t.size : Int)) = (s.bs.length : Int) + (wd most : Int) + 8 * (t.size : Int) := wrap_i64 (by omega) (by omega)
      by_cases h3 : most < (t.size : Int)
      · simp only [F38, ↓RW_seq, ↓AW_ret, ↓AW_skip, ↓AW_exit, ↓AW_block, ↓RW_cond, ↓RW_reg, ↓RW_regd, ↓RO_op, ↓RO_t, ↓RO_f, ↓RO_nt, ↓RO_nf, ↓AO_nil, ↓RD_op, ↓RD_t, ↓RD_f, ↓RD_nt, ↓RD_fe, ↓RD_nte, ↓RD_nf, ↓AOD_nil, CDops_eff, CDops_no, CDops_1, CDops_2, Again_nil, Again_cons, Same1_int, Same1_bool, Same1_str, Same1_ptr, Same1_slice, Same1_nil, CSeq_ap, CReg_ap, COps_ap, Then_normal, Then_ret, Then_exit, InBlock_normal, InBlock_ret, InBlock_self, InBlock_exit, Ends_ret, Ends_normal, ares, tup, finO_some, fin_same, fin_false, argsE, dval, aop, ev, evs, evo, evp, fillL, addrOf, intOf?, lk_put, lk_none, lk_cons, lk_nil, keep_nil, keep_cons, Op1_some, Option.map_some, Option.bind_some, reduceIte, Nat.reduceEqDiff, binV_lss, binV_leq, binV_gtr, binV_geq, binV_eql, binV_neq, binV_add, binV_sub, binV_mul, un_not, CondA_false, CondA_true, Bool.not_true, Bool.not_false, reduceCtorEq, decide_true, decide_false, Nat.add_zero, Nat.zero_add, Nat.reduceAdd, Nat.reduceMul , hload, hstore, List.length_cons, List.length_nil, Nat.reduceAdd, Nat.reduceLeDiff, decide_true, List.all_cons, List.all_nil, one, Bool.and_true, Bool.true_and, Bool.and_self, splice, List.set_cons_zero, List.set_cons_succ, List.getElem?_cons_zero, List.getElem?_cons_succ, vc_int, vc_slice, vc_str, vc_bool, vc_int', vc_slice', vc_str', vc_bool', List.length_set, List.length_append, Nat.lt_irrefl, Nat.lt_add_one, and_self, true_and, and_true, lenV, cellsOfSlice, Nat.le_refl, if_true , hp, c1, limit, h2, h3]
        exact setE 8 (by simp [WS.text, h1, h2, h3])
      · by_cases h4 : 524288 < (s.bs.length : Int) + wd most + 8 * t.size
        · simp only [F38, ↓RW_seq, ↓AW_ret, ↓AW_skip, ↓AW_exit, ↓AW_block, ↓RW_cond, ↓RW_reg, ↓RW_regd, ↓RO_op, ↓RO_t, ↓RO_f, ↓RO_nt, ↓RO_nf, ↓AO_nil, ↓RD_op, ↓RD_t, ↓RD_f, ↓RD_nt, ↓RD_fe, ↓RD_nte, ↓RD_nf, ↓AOD_nil, CDops_eff, CDops_no, CDops_1, CDops_2, Again_nil, Again_cons, Same1_int, Same1_bool, Same1_str, Same1_ptr, Same1_slice, Same1_nil, CSeq_ap, CReg_ap, COps_ap, Then_normal, Then_ret, Then_exit, InBlock_normal, InBlock_ret, InBlock_self, InBlock_exit, Ends_ret, Ends_normal, ares, tup, finO_some, fin_same, fin_false, argsE, dval, aop, ev, evs, evo, evp, fillL, addrOf, intOf?, lk_put, lk_none, lk_cons, lk_nil, keep_nil, keep_cons, Op1_some, Option.map_some, Option.bind_some, reduceIte, Nat.reduceEqDiff, binV_lss, binV_leq, binV_gtr, binV_geq, binV_eql, binV_neq, binV_add, binV_sub, binV_mul, un_not, CondA_false, CondA_true, Bool.not_true, Bool.not_false, reduceCtorEq, decide_true, decide_false, Nat.add_zero, Nat.zero_add, Nat.reduceAdd, Nat.reduceMul , hload, hstore, List.length_cons, List.length_nil, Nat.reduceAdd, Nat.reduceLeDiff, decide_true, List.all_cons, List.all_nil, one, Bool.and_true, Bool.true_and, Bool.and_self, splice, List.set_cons_zero, List.set_cons_succ, List.getElem?_cons_zero, List.getElem?_cons_succ, vc_int, vc_slice, vc_str, vc_bool, vc_int', vc_slice', vc_str', vc_bool', List.length_set, List.length_append, Nat.lt_irrefl, Nat.lt_add_one, and_self, true_and, and_true, lenV, cellsOfSlice, Nat.le_refl, if_true , hp, c1, limit, h2, h3, width most hm.2, hw1, hw2, hw3, h4]
          exact setE 8 (by simp [WS.text, h1, h2, h4])
        · simp only [F38, ↓RW_seq, ↓AW_ret, ↓AW_skip, ↓AW_exit, ↓AW_block, ↓RW_cond, ↓RW_reg, ↓RW_regd, ↓RO_op, ↓RO_t, ↓RO_f, ↓RO_nt, ↓RO_nf, ↓AO_nil, ↓RD_op, ↓RD_t, ↓RD_f, ↓RD_nt, ↓RD_fe, ↓RD_nte, ↓RD_nf, ↓AOD_nil, CDops_eff, CDops_no, CDops_1, CDops_2, Again_nil, Again_cons, Same1_int, Same1_bool, Same1_str, Same1_ptr, Same1_slice, Same1_nil, CSeq_ap, CReg_ap, COps_ap, Then_normal, Then_ret, Then_exit, InBlock_normal, InBlock_ret, InBlock_self, InBlock_exit, Ends_ret, Ends_normal, ares, tup, finO_some, fin_same, fin_false, argsE, dval, aop, ev, evs, evo, evp, fillL, addrOf, intOf?, lk_put, lk_none, lk_cons, lk_nil, keep_nil, keep_cons, Op1_some, Option.map_some, Option.bind_some, reduceIte, Nat.reduceEqDiff, binV_lss, binV_leq, binV_gtr, binV_geq, binV_eql, binV_neq, binV_add, binV_sub, binV_mul, un_not, CondA_false, CondA_true, Bool.not_true, Bool.not_false, reduceCtorEq, decide_true, decide_false, Nat.add_zero, Nat.zero_add, Nat.reduceAdd, Nat.reduceMul , hload, hstore, List.length_cons, List.length_nil, Nat.reduceAdd, Nat.reduceLeDiff, decide_true, List.all_cons, List.all_nil, one, Bool.and_true, Bool.true_and, Bool.and_self, splice, List.set_cons_zero, List.set_cons_succ, List.getElem?_cons_zero, List.getElem?_cons_succ, vc_int, vc_slice, vc_str, vc_bool, vc_int', vc_slice', vc_str', vc_bool', List.length_set, List.length_append, Nat.lt_irrefl, Nat.lt_add_one, and_self, true_and, and_true, lenV, cellsOfSlice, Nat.le_refl, if_true , hp, c1, limit, h2, h3, width most hm.2, hw1, hw2, hw3, h4]
          have hsz : IntKind.u64.wrap (t.size : Int) = (t.size : Int) := wrap_u64 (by omega) (by omega)
          rw [hsz]
          refine put_spec (by omega) (by omega) (by omega) h _ fun H1 o1 k1 k2 k3 => ?_
          simp only [↓RW_seq, ↓AW_ret, ↓AW_skip, ↓AW_exit, ↓AW_block, ↓RW_cond, ↓RW_reg, ↓RW_regd, ↓RO_op, ↓RO_t, ↓RO_f, ↓RO_nt, ↓RO_nf, ↓AO_nil, ↓RD_op, ↓RD_t, ↓RD_f, ↓RD_nt, ↓RD_fe, ↓RD_nte, ↓RD_nf, ↓AOD_nil, CDops_eff, CDops_no, CDops_1, CDops_2, Again_nil, Again_cons, Same1_int, Same1_bool, Same1_str, Same1_ptr, Same1_slice, Same1_nil, CSeq_ap, CReg_ap, COps_ap, Then_normal, Then_ret, Then_exit, InBlock_normal, InBlock_ret, InBlock_self, InBlock_exit, Ends_ret, Ends_normal, ares, tup, finO_some, fin_same, fin_false, argsE, dval, aop, ev, evs, evo, evp, fillL, addrOf, intOf?, lk_put, lk_none, lk_cons, lk_nil, keep_nil, keep_cons, Op1_some, Option.map_some, Option.bind_some, reduceIte, Nat.reduceEqDiff, binV_lss, binV_leq, binV_gtr, binV_geq, binV_eql, binV_neq, binV_add, binV_sub, binV_mul, un_not, CondA_false, CondA_true, Bool.not_true, Bool.not_false, reduceCtorEq, decide_true, decide_false, Nat.add_zero, Nat.zero_add, Nat.reduceAdd, Nat.reduceMul ]
          have hfin : s.text most t = ⟨s.bs ++ bitsOf (wd most) t.size ++ textBits t, s.err⟩ := by simp [WS.text, h1, h2, h3, h4]
          unfold Wrote at hk
          rw [hfin] at hk
          clear hfin setE
          apply AW_loop_inv (fun j e H2 => j ≤ t.size ∧ e = [(0, .pointer (some ⟨p, 0, none⟩)), (2, .string t), (15, .int .i64 t.size), (16, .int .i64 ((t.size - j : Nat) : Int))] ∧
            ∃ o2, WSt H2 p o2 (s.bs ++ bitsOf (wd most) t.size ++ textPre t (t.size - j)) s.err ∧ Frm (p :: o.toList) H H2 ∧ (∀ q, o2 = some q → o = some q ∨ H.length ≤ q)) _ t.size
          · refine ⟨Nat.le_refl _, by rw [Nat.sub_self]; rfl, o1, ?_, k2, k3⟩
            rw [Nat.sub_self]; simpa [textPre] using k1
          · rintro j e H2 ⟨hj, rfl, o2, m1, m2, m3⟩
            cases j with
            | zero =>
              have g0 : ¬ ((t.size - 0 : Nat) : Int) < (t.size : Int) := by omega
              simp only [↓RW_seq, ↓AW_ret, ↓AW_skip, ↓AW_exit, ↓AW_block, ↓RW_cond, ↓RW_reg, ↓RW_regd, ↓RO_op, ↓RO_t, ↓RO_f, ↓RO_nt, ↓RO_nf, ↓AO_nil, ↓RD_op, ↓RD_t, ↓RD_f, ↓RD_nt, ↓RD_fe, ↓RD_nte, ↓RD_nf, ↓AOD_nil, CDops_eff, CDops_no, CDops_1, CDops_2, Again_nil, Again_cons, Same1_int, Same1_bool, Same1_str, Same1_ptr, Same1_slice, Same1_nil, CSeq_ap, CReg_ap, COps_ap, Then_normal, Then_ret, Then_exit, InBlock_normal, InBlock_ret, InBlock_self, InBlock_exit, Ends_ret, Ends_normal, ares, tup, finO_some, fin_same, fin_false, argsE, dval, aop, ev, evs, evo, evp, fillL, addrOf, intOf?, lk_put, lk_none, lk_cons, lk_nil, keep_nil, keep_cons, Op1_some, Option.map_some, Option.bind_some, reduceIte, Nat.reduceEqDiff, binV_lss, binV_leq, binV_gtr, binV_geq, binV_eql, binV_neq, binV_add, binV_sub, binV_mul, un_not, CondA_false, CondA_true, Bool.not_true, Bool.not_false, reduceCtorEq, decide_true, decide_false, Nat.add_zero, Nat.zero_add, Nat.reduceAdd, Nat.reduceMul , g0]
              refine hk _ o2 ?_ m2 m3
              rw [Nat.sub_zero, textPre_all] at m1
              exact m1
            | succ j =>
              have g0 : ((t.size - (j + 1) : Nat) : Int) < (t.size : Int) := by omega
              have hi : t.size - (j + 1) < t.size := by omega
              obtain ⟨b, hb1, hb2⟩ := byte_get t _ hi
              have hbw : IntKind.u64.wrap (b.toNat : Int) = (b.toNat : Int) := wrap_u64 (by omega) (by have := b.toNat_lt; omega)
              have g1 : (0 : Int) ≤ ((t.size - (j + 1) : Nat) : Int) := by omega
              have g2 : IntKind.i64.wrap (((t.size - (j + 1) : Nat) : Int) + 1) = ((t.size - j : Nat) : Int) := by rw [wrap_i64 (by omega) (by omega)]; omega
              simp only [↓RW_seq, ↓AW_ret, ↓AW_skip, ↓AW_exit, ↓AW_block, ↓RW_cond, ↓RW_reg, ↓RW_regd, ↓RO_op, ↓RO_t, ↓RO_f, ↓RO_nt, ↓RO_nf, ↓AO_nil, ↓RD_op, ↓RD_t, ↓RD_f, ↓RD_nt, ↓RD_fe, ↓RD_nte, ↓RD_nf, ↓AOD_nil, CDops_eff, CDops_no, CDops_1, CDops_2, Again_nil, Again_cons, Same1_int, Same1_bool, Same1_str, Same1_ptr, Same1_slice, Same1_nil, CSeq_ap, CReg_ap, COps_ap, Then_normal, Then_ret, Then_exit, InBlock_normal, InBlock_ret, InBlock_self, InBlock_exit, Ends_ret, Ends_normal, ares, tup, finO_some, fin_same, fin_false, argsE, dval, aop, ev, evs, evo, evp, fillL, addrOf, intOf?, lk_put, lk_none, lk_cons, lk_nil, keep_nil, keep_cons, Op1_some, Option.map_some, Option.bind_some, reduceIte, Nat.reduceEqDiff, binV_lss, binV_leq, binV_gtr, binV_geq, binV_eql, binV_neq, binV_add, binV_sub, binV_mul, un_not, CondA_false, CondA_true, Bool.not_true, Bool.not_false, reduceCtorEq, decide_true, decide_false, Nat.add_zero, Nat.zero_add, Nat.reduceAdd, Nat.reduceMul , g0, g1, Int.toNat_natCast, hb1, hbw]
              refine put_spec (p := p) (o := o2) (w := 8) (by have := b.toNat_lt; omega) (by omega) ?_ m1 _ fun H3 o3 n1 n2 n3 => ?_
              · rw [List.length_append, List.length_append, bitsOf_length, textPre_length _ _ (by omega)]; omega
              · simp only [↓RW_seq, ↓AW_ret, ↓AW_skip, ↓AW_exit, ↓AW_block, ↓RW_cond, ↓RW_reg, ↓RW_regd, ↓RO_op, ↓RO_t, ↓RO_f, ↓RO_nt, ↓RO_nf, ↓AO_nil, ↓RD_op, ↓RD_t, ↓RD_f, ↓RD_nt, ↓RD_fe, ↓RD_nte, ↓RD_nf, ↓AOD_nil, CDops_eff, CDops_no, CDops_1, CDops_2, Again_nil, Again_cons, Same1_int, Same1_bool, Same1_str, Same1_ptr, Same1_slice, Same1_nil, CSeq_ap, CReg_ap, COps_ap, Then_normal, Then_ret, Then_exit, InBlock_normal, InBlock_ret, InBlock_self, InBlock_exit, Ends_ret, Ends_normal, ares, tup, finO_some, fin_same, fin_false, argsE, dval, aop, ev, evs, evo, evp, fillL, addrOf, intOf?, lk_put, lk_none, lk_cons, lk_nil, keep_nil, keep_cons, Op1_some, Option.map_some, Option.bind_some, reduceIte, Nat.reduceEqDiff, binV_lss, binV_leq, binV_gtr, binV_geq, binV_eql, binV_neq, binV_add, binV_sub, binV_mul, un_not, CondA_false, CondA_true, Bool.not_true, Bool.not_false, reduceCtorEq, decide_true, decide_false, Nat.add_zero, Nat.zero_add, Nat.reduceAdd, Nat.reduceMul , g2]
                refine ⟨j, by omega, by omega, rfl, o3, ?_, m2.trans n2 ?_, fun q hq => ?_⟩
                · rw [show t.size - j = t.size - (j + 1) + 1 by omega, textPre_succ t _ b hb2]
                  simpa using n1
                · intro i hi
                  rcases List.mem_cons.1 hi with rfl | hi
                  · left; simp
                  · rcases m3 i (by simpa [Option.mem_toList] using hi) with h5 | h5
                    · left; simp [h5]
                    · right; exact h5
                · rcases n3 q hq with h5 | h5
                  · exact m3 q h5
                  · right; have := m2.1; omega
  · have c1 : decide (s.err ≠ 0) = true := by simp [h1]
    simp only [F38, ↓RW_seq, ↓AW_ret, ↓AW_skip, ↓AW_exit, ↓AW_block, ↓RW_cond, ↓RW_reg, ↓RW_regd, ↓RO_op, ↓RO_t, ↓RO_f, ↓RO_nt, ↓RO_nf, ↓AO_nil, ↓RD_op, ↓RD_t, ↓RD_f, ↓RD_nt, ↓RD_fe, ↓RD_nte, ↓RD_nf, ↓AOD_nil, CDops_eff, CDops_no, CDops_1, CDops_2, Again_nil, Again_cons, Same1_int, Same1_bool, Same1_str, Same1_ptr, Same1_slice, Same1_nil, CSeq_ap, CReg_ap, COps_ap, Then_normal, Then_ret, Then_exit, InBlock_normal, InBlock_ret, InBlock_self, InBlock_exit, Ends_ret, Ends_normal, ares, tup, finO_some, fin_same, fin_false, argsE, dval, aop, ev, evs, evo, evp, fillL, addrOf, intOf?, lk_put, lk_none, lk_cons, lk_nil, keep_nil, keep_cons, Op1_some, Option.map_some, Option.bind_some, reduceIte, Nat.reduceEqDiff, binV_lss, binV_leq, binV_gtr, binV_geq, binV_eql, binV_neq, binV_add, binV_sub, binV_mul, un_not, CondA_false, CondA_true, Bool.not_true, Bool.not_false, reduceCtorEq, decide_true, decide_false, Nat.add_zero, Nat.zero_add, Nat.reduceAdd, Nat.reduceMul , hload, hstore, List.length_cons, List.length_nil, Nat.reduceAdd, Nat.reduceLeDiff, decide_true, List.all_cons, List.all_nil, one, Bool.and_true, Bool.true_and, Bool.and_self, splice, List.set_cons_zero, List.set_cons_succ, List.getElem?_cons_zero, List.getElem?_cons_succ, vc_int, vc_slice, vc_str, vc_bool, vc_int', vc_slice', vc_str', vc_bool', List.length_set, List.length_append, Nat.lt_irrefl, Nat.lt_add_one, and_self, true_and, and_true, lenV, cellsOfSlice, Nat.le_refl, if_true , hp, c1]
    refine hk H o ?_ (Frm.refl _ _) (fun q hq => .inl hq)
    simpa [WS.text, h1] using h

end Go.Proofs.Ytlbhbjaimcinbaa.AI
