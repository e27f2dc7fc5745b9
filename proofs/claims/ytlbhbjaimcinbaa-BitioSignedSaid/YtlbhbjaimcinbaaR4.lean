/- The reader's texts. -/
import Derived.Test.YtlbhbjaimcinbaaR3
import Derived.Test.YtlbhbjaimcinbaaW4
set_option linter.unusedSimpArgs false
namespace Go.Proofs.Ytlbhbjaimcinbaa.AI
open Go

/-- The bytes that n times eight bits make. -/
def readL (s : ByteArray) (a n : Nat) : List Nat := (List.range n).map fun i => valOf s (a + 8 * i) 8
def RS.text (r : RS) (most : Int) : ByteArray × RS :=
  let x := r.field (lim most) (wd most)
  if x.2.err ≠ 0 then (⟨#[]⟩, x.2) else if most < (x.1 : Int) then (⟨#[]⟩, { x.2 with err := 2 }) else if x.2.left < 8 * (x.1 : Int) then (⟨#[]⟩, { x.2 with err := 9 })
  else (strOf (readL x.2.s x.2.at_ x.1), { x.2 with at_ := x.2.at_ + 8 * x.1 })

theorem readL_length (s : ByteArray) (a n : Nat) : (readL s a n).length = n := by simp [readL]
theorem readL_succ (s : ByteArray) (a n : Nat) : readL s a (n + 1) = readL s a n ++ [valOf s (a + 8 * n) 8] := by simp [readL, List.range_succ]
theorem readL_small (s : ByteArray) (a n : Nat) : ∀ x ∈ readL s a n, x < 256 := by
  intro x hx
  simp only [readL, List.mem_map] at hx
  obtain ⟨i, _, rfl⟩ := hx
  exact valOf_lt s _ 8

/-- What is read so far, and zeros. -/
def partL (s : ByteArray) (a i n : Nat) : List Nat := readL s a i ++ List.replicate (n - i) 0
theorem partL_length {s : ByteArray} {a i n : Nat} (h : i ≤ n) : (partL s a i n).length = n := by simp [partL, readL_length]; omega
theorem partL_zero (s : ByteArray) (a n : Nat) : partL s a 0 n = List.replicate n 0 := by simp [partL, readL]
theorem partL_all (s : ByteArray) (a n : Nat) : partL s a n n = readL s a n := by simp [partL]
theorem partL_set {s : ByteArray} {a i n : Nat} (h : i < n) : (partL s a i n).set i (valOf s (a + 8 * i) 8) = partL s a (i + 1) n := by
  unfold partL
  rw [List.set_append_right _ _ (by rw [readL_length]; exact Nat.le_refl _), readL_length, Nat.sub_self, readL_succ]
  obtain ⟨k, hk⟩ : ∃ k, n - i = k + 1 := ⟨n - i - 1, by omega⟩
  rw [hk, show n - (i + 1) = k by omega, List.replicate_succ, List.set_cons_zero]
  simp

theorem flat_zeros (n : Nat) : (List.replicate n [Value.int .u8 0]).flatten = u8s (List.replicate n 0) := by
  induction n with
  | zero => rfl
  | succ n ih => rw [List.replicate_succ, List.flatten_cons, ih]; rfl

section
variable {H : Heap} {p : Nat} {r r' : RS} {x y : Option Blk}
theorem gh_get : hget (setR H p r ++ [x]) H.length = x := by rw [hget_app]; simp [setR_length]
theorem gh_st (hp : p < H.length) : RSt (setR H p r ++ [x]) p r := by
  unfold RSt; rw [hget_append_lt (by simpa [setR_length] using hp)]; exact setR_st hp r
theorem gh_set : (setR H p r ++ [x]).set H.length y = setR H p r ++ [y] := by
  rw [List.set_append_right _ _ (by simp [setR_length])]; simp [setR_length]
theorem gh_setR (hp : p < H.length) : setR (setR H p r ++ [x]) p r' = setR H p r' ++ [x] := by
  unfold setR
  rw [List.set_append_left _ _ (by simpa using hp), List.set_set]
end

theorem rtext_spec {H : Heap} {p : Nat} {r : RS} {most : Int} (h : RSt H p r) (ho : r.Ok) (hm : Is64 most) {K : Value → Heap → Prop}
    (hk : ∀ H', RSt H' p (r.text most).2 → Frm [p] H H' → K (.string (r.text most).1) H') : Op1 (AC tbl 42 [.pointer (some ⟨p, 0, none⟩), .int .i64 most] H) K := by
  apply AC_wp (F := F42) rfl (by simp [F42]) (.inl rfl)
  have hwd := wd_le (n := most) hm.2
  have hpl := h.lt
  have hsm := @field_small r (lim most) (wd most) (fun _ => by omega)
  have hsp := @rfield_spec H p r (lim most) (wd most) h ho (fun _ => by omega)
  have he0 := @field_err0 r (lim most) (wd most)
  have hok := RS.field_ok ho (right := lim most) (w := (wd most : Int)) (fun _ => by omega)
  unfold RS.text at hk
  generalize hx : r.field (lim most) (wd most) = x at *
  obtain ⟨n, r'⟩ := x
  simp only at hsm hsp he0 hk hok
  have hwr : IntKind.i64.wrap (n : Int) = (n : Int) := wrap_i64 (by omega) (by omega)
  have hst := setR_st hpl r'
  have hc := cells_get hst
  by_cases h1 : r'.err = 0
  · obtain ⟨hr, hr0, hf, hl⟩ := he0 h1
    have hlm : 1 ≤ most ∧ most ≤ 4095 := by simpa [lim] using hr
    by_cases h2 : most < (n : Int)
    · simp only [F42, ↓RW_seq, ↓AW_ret, ↓AW_skip, ↓AW_exit, ↓AW_block, ↓RW_cond, ↓RW_reg, ↓RW_regd, ↓RO_op, ↓RO_t, ↓RO_f, ↓RO_nt, ↓RO_nf, ↓AO_nil, ↓RD_op, ↓RD_t, ↓RD_f, ↓RD_nt, ↓RD_fe, ↓RD_nte, ↓RD_nf, ↓AOD_nil, CDops_eff, CDops_no, CDops_1, CDops_2, Again_nil, Again_cons, Same1_int, Same1_bool, Same1_str, Same1_ptr, Same1_slice, Same1_nil, CSeq_ap, CReg_ap, COps_ap, Then_normal, Then_ret, Then_exit, InBlock_normal, InBlock_ret, InBlock_self, InBlock_exit, Ends_ret, Ends_normal, ares, tup, finO_some, fin_same, fin_false, argsE, dval, aop, ev, evs, evo, evp, fillL, addrOf, intOf?, lk_put, lk_none, lk_cons, lk_nil, keep_nil, keep_cons, Op1_some, Option.map_some, Option.bind_some, reduceIte, Nat.reduceEqDiff, binV_lss, binV_leq, binV_gtr, binV_geq, binV_eql, binV_neq, binV_add, binV_sub, binV_mul, un_not, CondA_false, CondA_true, Bool.not_true, Bool.not_false, reduceCtorEq, decide_true, decide_false, Nat.add_zero, Nat.zero_add, Nat.reduceAdd, Nat.reduceMul, Bool.bne_false, Bool.bne_true, eqPtr, Option.isNone_some, Option.isNone_none, List.getElem?_cons_zero, List.getElem?_cons_succ, Option.isSome_none, Option.isSome_some , hload, hstore, List.length_cons, List.length_nil, Nat.reduceAdd, Nat.reduceLeDiff, decide_true, List.all_cons, List.all_nil, one, Bool.and_true, Bool.true_and, Bool.and_self, splice, List.set_cons_zero, List.set_cons_succ, List.getElem?_cons_zero, List.getElem?_cons_succ, vc_int, vc_slice, vc_str, vc_bool, vc_int', vc_slice', vc_str', vc_bool', List.length_set, List.length_append, Nat.lt_irrefl, Nat.lt_add_one, and_self, true_and, and_true, lenV, cellsOfSlice, Nat.le_refl, if_true , limit, width most hm.2, hsp, hwr, hc, h1, ne_eq, not_true_eq_false, h2, fail_spec hst]
      rw [if_neg (by simp [h1]), if_pos h2] at hk
      have := hk (setR (setR H p r') p (r'.fail 2)) ?_ ?_
      · exact this
      · rw [setR_setR]; simp only [RS.fail, h1, if_true]; exact setR_st hpl _
      · rw [setR_setR]; exact setR_frm _ _ _
    · have hleft := left_spec hst hok
      have w1 : IntKind.i64.wrap (8 * (n : Int)) = 8 * (n : Int) := wrap_i64 (by omega) (by omega)
      by_cases h3 : r'.left < 8 * (n : Int)
      · simp only [F42, ↓RW_seq, ↓AW_ret, ↓AW_skip, ↓AW_exit, ↓AW_block, ↓RW_cond, ↓RW_reg, ↓RW_regd, ↓RO_op, ↓RO_t, ↓RO_f, ↓RO_nt, ↓RO_nf, ↓AO_nil, ↓RD_op, ↓RD_t, ↓RD_f, ↓RD_nt, ↓RD_fe, ↓RD_nte, ↓RD_nf, ↓AOD_nil, CDops_eff, CDops_no, CDops_1, CDops_2, Again_nil, Again_cons, Same1_int, Same1_bool, Same1_str, Same1_ptr, Same1_slice, Same1_nil, CSeq_ap, CReg_ap, COps_ap, Then_normal, Then_ret, Then_exit, InBlock_normal, InBlock_ret, InBlock_self, InBlock_exit, Ends_ret, Ends_normal, ares, tup, finO_some, fin_same, fin_false, argsE, dval, aop, ev, evs, evo, evp, fillL, addrOf, intOf?, lk_put, lk_none, lk_cons, lk_nil, keep_nil, keep_cons, Op1_some, Option.map_some, Option.bind_some, reduceIte, Nat.reduceEqDiff, binV_lss, binV_leq, binV_gtr, binV_geq, binV_eql, binV_neq, binV_add, binV_sub, binV_mul, un_not, CondA_false, CondA_true, Bool.not_true, Bool.not_false, reduceCtorEq, decide_true, decide_false, Nat.add_zero, Nat.zero_add, Nat.reduceAdd, Nat.reduceMul, Bool.bne_false, Bool.bne_true, eqPtr, Option.isNone_some, Option.isNone_none, List.getElem?_cons_zero, List.getElem?_cons_succ, Option.isSome_none, Option.isSome_some , hload, hstore, List.length_cons, List.length_nil, Nat.reduceAdd, Nat.reduceLeDiff, decide_true, List.all_cons, List.all_nil, one, Bool.and_true, Bool.true_and, Bool.and_self, splice, List.set_cons_zero, List.set_cons_succ, List.getElem?_cons_zero, List.getElem?_cons_succ, vc_int, vc_slice, vc_str, vc_bool, vc_int', vc_slice', vc_str', vc_bool', List.length_set, List.length_append, Nat.lt_irrefl, Nat.lt_add_one, and_self, true_and, and_true, lenV, cellsOfSlice, Nat.le_refl, if_true , limit, width most hm.2, hsp, hwr, hc, h1, ne_eq, not_true_eq_false, h2, w1, hleft, h3, fail_spec hst]
        rw [if_neg (by simp [h1]), if_neg h2, if_pos h3] at hk
        have := hk (setR (setR H p r') p (r'.fail 9)) ?_ ?_
        · exact this
        · rw [setR_setR]; simp only [RS.fail, h1, if_true]; exact setR_st hpl _
        · rw [setR_setR]; exact setR_frm _ _ _
      · rw [if_neg (by simp [h1]), if_neg h2, if_neg h3] at hk
        have hn : n ≤ 4095 := by omega
        have hroom : r'.at_ + 8 * n ≤ 8 * r'.s.size := by
          simp only [RS.left, if_pos h1] at h3; omega
        have hmk : (0 : Int) ≤ (n : Int) ∧ (n : Int) ≤ (n : Int) ∧ (n : Int) ≤ 1000000000 ∧ (1 : Nat) ≤ 1000 := by omega
        have hsize := hok.size
        simp only [F42, ↓RW_seq, ↓AW_ret, ↓AW_skip, ↓AW_exit, ↓AW_block, ↓RW_cond, ↓RW_reg, ↓RW_regd, ↓RO_op, ↓RO_t, ↓RO_f, ↓RO_nt, ↓RO_nf, ↓AO_nil, ↓RD_op, ↓RD_t, ↓RD_f, ↓RD_nt, ↓RD_fe, ↓RD_nte, ↓RD_nf, ↓AOD_nil, CDops_eff, CDops_no, CDops_1, CDops_2, Again_nil, Again_cons, Same1_int, Same1_bool, Same1_str, Same1_ptr, Same1_slice, Same1_nil, CSeq_ap, CReg_ap, COps_ap, Then_normal, Then_ret, Then_exit, InBlock_normal, InBlock_ret, InBlock_self, InBlock_exit, Ends_ret, Ends_normal, ares, tup, finO_some, fin_same, fin_false, argsE, dval, aop, ev, evs, evo, evp, fillL, addrOf, intOf?, lk_put, lk_none, lk_cons, lk_nil, keep_nil, keep_cons, Op1_some, Option.map_some, Option.bind_some, reduceIte, Nat.reduceEqDiff, binV_lss, binV_leq, binV_gtr, binV_geq, binV_eql, binV_neq, binV_add, binV_sub, binV_mul, un_not, CondA_false, CondA_true, Bool.not_true, Bool.not_false, reduceCtorEq, decide_true, decide_false, Nat.add_zero, Nat.zero_add, Nat.reduceAdd, Nat.reduceMul, Bool.bne_false, Bool.bne_true, eqPtr, Option.isNone_some, Option.isNone_none, List.getElem?_cons_zero, List.getElem?_cons_succ, Option.isSome_none, Option.isSome_some , hload, hstore, List.length_cons, List.length_nil, Nat.reduceAdd, Nat.reduceLeDiff, decide_true, List.all_cons, List.all_nil, one, Bool.and_true, Bool.true_and, Bool.and_self, splice, List.set_cons_zero, List.set_cons_succ, List.getElem?_cons_zero, List.getElem?_cons_succ, vc_int, vc_slice, vc_str, vc_bool, vc_int', vc_slice', vc_str', vc_bool', List.length_set, List.length_append, Nat.lt_irrefl, Nat.lt_add_one, and_self, true_and, and_true, lenV, cellsOfSlice, Nat.le_refl, if_true , limit, width most hm.2, hsp, hwr, hc, h1, ne_eq, not_true_eq_false, h2, w1, hleft, h3, hmk, Int.toNat_natCast, flat_zeros, setR_length]
        apply AW_loop_inv (fun j e H1 => j ≤ n ∧ e = [(6, .func (.func 48) #[.pointer (some ⟨p, 0, none⟩)] #[]), (7, .slice (some ⟨H.length, 0, none⟩) n 1), (41, .int .i64 (n : Int)), (42, .int .i64 ((n - j : Nat) : Int))] ∧
          H1 = setR H p { r' with at_ := r'.at_ + 8 * (n - j) } ++ [some ⟨true, u8s (partL r'.s r'.at_ (n - j) n)⟩]) _ n
        · refine ⟨Nat.le_refl _, by rw [Nat.sub_self]; rfl, ?_⟩
          rw [Nat.sub_self, partL_zero]; rfl
        · rintro j e H1 ⟨hj, rfl, rfl⟩
          cases j with
          | zero =>
            have g0 : ¬ (n : Int) < (n : Int) := by omega
            simp only [Nat.sub_zero, partL_all]
            by_cases hn0 : n = 0
            · subst hn0
              simp only [↓RW_seq, ↓AW_ret, ↓AW_skip, ↓AW_exit, ↓AW_block, ↓RW_cond, ↓RW_reg, ↓RW_regd, ↓RO_op, ↓RO_t, ↓RO_f, ↓RO_nt, ↓RO_nf, ↓AO_nil, ↓RD_op, ↓RD_t, ↓RD_f, ↓RD_nt, ↓RD_fe, ↓RD_nte, ↓RD_nf, ↓AOD_nil, CDops_eff, CDops_no, CDops_1, CDops_2, Again_nil, Again_cons, Same1_int, Same1_bool, Same1_str, Same1_ptr, Same1_slice, Same1_nil, CSeq_ap, CReg_ap, COps_ap, Then_normal, Then_ret, Then_exit, InBlock_normal, InBlock_ret, InBlock_self, InBlock_exit, Ends_ret, Ends_normal, ares, tup, finO_some, fin_same, fin_false, argsE, dval, aop, ev, evs, evo, evp, fillL, addrOf, intOf?, lk_put, lk_none, lk_cons, lk_nil, keep_nil, keep_cons, Op1_some, Option.map_some, Option.bind_some, reduceIte, Nat.reduceEqDiff, binV_lss, binV_leq, binV_gtr, binV_geq, binV_eql, binV_neq, binV_add, binV_sub, binV_mul, un_not, CondA_false, CondA_true, Bool.not_true, Bool.not_false, reduceCtorEq, decide_true, decide_false, Nat.add_zero, Nat.zero_add, Nat.reduceAdd, Nat.reduceMul, Bool.bne_false, Bool.bne_true, eqPtr, Option.isNone_some, Option.isNone_none, List.getElem?_cons_zero, List.getElem?_cons_succ, Option.isSome_none, Option.isSome_some , hload, hstore, List.length_cons, List.length_nil, Nat.reduceAdd, Nat.reduceLeDiff, decide_true, List.all_cons, List.all_nil, one, Bool.and_true, Bool.true_and, Bool.and_self, splice, List.set_cons_zero, List.set_cons_succ, List.getElem?_cons_zero, List.getElem?_cons_succ, vc_int, vc_slice, vc_str, vc_bool, vc_int', vc_slice', vc_str', vc_bool', List.length_set, List.length_append, Nat.lt_irrefl, Nat.lt_add_one, and_self, true_and, and_true, lenV, cellsOfSlice, Nat.le_refl, if_true , g0, bytesOf?]
              exact hk _ (gh_st hpl) ((setR_frm _ _ _).push _)
            · have hl1 : 0 + n * 1 ≤ (u8s (readL r'.s r'.at_ n)).length := by rw [u8s_length, readL_length]; omega
              have ht : List.take (n * 1) (List.drop 0 (u8s (readL r'.s r'.at_ n))) = u8s (readL r'.s r'.at_ n) := by
                rw [List.drop_zero, Nat.mul_one]
                exact List.take_of_length_le (by rw [u8s_length, readL_length]; exact Nat.le_refl _)
              rw [Nat.zero_add] at hl1
              simp only [↓RW_seq, ↓AW_ret, ↓AW_skip, ↓AW_exit, ↓AW_block, ↓RW_cond, ↓RW_reg, ↓RW_regd, ↓RO_op, ↓RO_t, ↓RO_f, ↓RO_nt, ↓RO_nf, ↓AO_nil, ↓RD_op, ↓RD_t, ↓RD_f, ↓RD_nt, ↓RD_fe, ↓RD_nte, ↓RD_nf, ↓AOD_nil, CDops_eff, CDops_no, CDops_1, CDops_2, Again_nil, Again_cons, Same1_int, Same1_bool, Same1_str, Same1_ptr, Same1_slice, Same1_nil, CSeq_ap, CReg_ap, COps_ap, Then_normal, Then_ret, Then_exit, InBlock_normal, InBlock_ret, InBlock_self, InBlock_exit, Ends_ret, Ends_normal, ares, tup, finO_some, fin_same, fin_false, argsE, dval, aop, ev, evs, evo, evp, fillL, addrOf, intOf?, lk_put, lk_none, lk_cons, lk_nil, keep_nil, keep_cons, Op1_some, Option.map_some, Option.bind_some, reduceIte, Nat.reduceEqDiff, binV_lss, binV_leq, binV_gtr, binV_geq, binV_eql, binV_neq, binV_add, binV_sub, binV_mul, un_not, CondA_false, CondA_true, Bool.not_true, Bool.not_false, reduceCtorEq, decide_true, decide_false, Nat.add_zero, Nat.zero_add, Nat.reduceAdd, Nat.reduceMul, Bool.bne_false, Bool.bne_true, eqPtr, Option.isNone_some, Option.isNone_none, List.getElem?_cons_zero, List.getElem?_cons_succ, Option.isSome_none, Option.isSome_some , hload, hstore, List.length_cons, List.length_nil, Nat.reduceAdd, Nat.reduceLeDiff, decide_true, List.all_cons, List.all_nil, one, Bool.and_true, Bool.true_and, Bool.and_self, splice, List.set_cons_zero, List.set_cons_succ, List.getElem?_cons_zero, List.getElem?_cons_succ, vc_int, vc_slice, vc_str, vc_bool, vc_int', vc_slice', vc_str', vc_bool', List.length_set, List.length_append, Nat.lt_irrefl, Nat.lt_add_one, and_self, true_and, and_true, lenV, cellsOfSlice, Nat.le_refl, if_true , g0, hn0, gh_get, hl1, ht, bytes_u8s _ (readL_small _ _ _)]
              exact hk _ (gh_st hpl) ((setR_frm _ _ _).push _)
          | succ j =>
            have g0 : ((n - (j + 1) : Nat) : Int) < (n : Int) := by omega
            have hi : n - (j + 1) < n := by omega
            have g1 : (0 : Int) ≤ ((n - (j + 1) : Nat) : Int) ∧ ((n - (j + 1) : Nat) : Int) < (n : Int) := by omega
            have g2 : IntKind.i64.wrap (((n - (j + 1) : Nat) : Int) + 1) = ((n - j : Nat) : Int) := by rw [wrap_i64 (by omega) (by omega)]; omega
            have hget8 := @get_spec (setR H p { r' with at_ := r'.at_ + 8 * (n - (j + 1)) } ++ [some ⟨true, u8s (partL r'.s r'.at_ (n - (j + 1)) n)⟩]) p { r' with at_ := r'.at_ + 8 * (n - (j + 1)) } 8 (gh_st hpl) (by omega) (by simp only; omega) (by simp only; omega)
            rw [gh_setR hpl] at hget8
            simp only [show ((8 : Nat) : Int) = 8 from rfl] at hget8
            have hval := valOf_lt r'.s (r'.at_ + 8 * (n - (j + 1))) 8
            have hg3 : n - (j + 1) + 1 ≤ (u8s (partL r'.s r'.at_ (n - (j + 1)) n)).length := by rw [u8s_length, partL_length (by omega)]; omega
            have happ : ∀ v : Value, #[v].toList ++ [Value.int IntKind.i64 8] ++ #[].toList = [v, Value.int IntKind.i64 8] := fun _ => rfl
            simp only [↓RW_seq, ↓AW_ret, ↓AW_skip, ↓AW_exit, ↓AW_block, ↓RW_cond, ↓RW_reg, ↓RW_regd, ↓RO_op, ↓RO_t, ↓RO_f, ↓RO_nt, ↓RO_nf, ↓AO_nil, ↓RD_op, ↓RD_t, ↓RD_f, ↓RD_nt, ↓RD_fe, ↓RD_nte, ↓RD_nf, ↓AOD_nil, CDops_eff, CDops_no, CDops_1, CDops_2, Again_nil, Again_cons, Same1_int, Same1_bool, Same1_str, Same1_ptr, Same1_slice, Same1_nil, CSeq_ap, CReg_ap, COps_ap, Then_normal, Then_ret, Then_exit, InBlock_normal, InBlock_ret, InBlock_self, InBlock_exit, Ends_ret, Ends_normal, ares, tup, finO_some, fin_same, fin_false, argsE, dval, aop, ev, evs, evo, evp, fillL, addrOf, intOf?, lk_put, lk_none, lk_cons, lk_nil, keep_nil, keep_cons, Op1_some, Option.map_some, Option.bind_some, reduceIte, Nat.reduceEqDiff, binV_lss, binV_leq, binV_gtr, binV_geq, binV_eql, binV_neq, binV_add, binV_sub, binV_mul, un_not, CondA_false, CondA_true, Bool.not_true, Bool.not_false, reduceCtorEq, decide_true, decide_false, Nat.add_zero, Nat.zero_add, Nat.reduceAdd, Nat.reduceMul, Bool.bne_false, Bool.bne_true, eqPtr, Option.isNone_some, Option.isNone_none, List.getElem?_cons_zero, List.getElem?_cons_succ, Option.isSome_none, Option.isSome_some , hload, hstore, List.length_cons, List.length_nil, Nat.reduceAdd, Nat.reduceLeDiff, decide_true, List.all_cons, List.all_nil, one, Bool.and_true, Bool.true_and, Bool.and_self, splice, List.set_cons_zero, List.set_cons_succ, List.getElem?_cons_zero, List.getElem?_cons_succ, vc_int, vc_slice, vc_str, vc_bool, vc_int', vc_slice', vc_str', vc_bool', List.length_set, List.length_append, Nat.lt_irrefl, Nat.lt_add_one, and_self, true_and, and_true, lenV, cellsOfSlice, Nat.le_refl, if_true , g0, happ, hget8, wrap_small _ hval, g1, Int.toNat_natCast, Nat.mul_one, gh_get, hg3, u8s_set, partL_set hi, gh_set, g2]
            refine ⟨j, by omega, by omega, rfl, ?_⟩
            rw [show n - j = n - (j + 1) + 1 by omega, show r'.at_ + 8 * (n - (j + 1)) + 8 = r'.at_ + 8 * (n - (j + 1) + 1) by omega]
  · simp only [F42, ↓RW_seq, ↓AW_ret, ↓AW_skip, ↓AW_exit, ↓AW_block, ↓RW_cond, ↓RW_reg, ↓RW_regd, ↓RO_op, ↓RO_t, ↓RO_f, ↓RO_nt, ↓RO_nf, ↓AO_nil, ↓RD_op, ↓RD_t, ↓RD_f, ↓RD_nt, ↓RD_fe, ↓RD_nte, ↓RD_nf, ↓AOD_nil, CDops_eff, CDops_no, CDops_1, CDops_2, Again_nil, Again_cons, Same1_int, Same1_bool, Same1_str, Same1_ptr, Same1_slice, Same1_nil, CSeq_ap, CReg_ap, COps_ap, Then_normal, Then_ret, Then_exit, InBlock_normal, InBlock_ret, InBlock_self, InBlock_exit, Ends_ret, Ends_normal, ares, tup, finO_some, fin_same, fin_false, argsE, dval, aop, ev, evs, evo, evp, fillL, addrOf, intOf?, lk_put, lk_none, lk_cons, lk_nil, keep_nil, keep_cons, Op1_some, Option.map_some, Option.bind_some, reduceIte, Nat.reduceEqDiff, binV_lss, binV_leq, binV_gtr, binV_geq, binV_eql, binV_neq, binV_add, binV_sub, binV_mul, un_not, CondA_false, CondA_true, Bool.not_true, Bool.not_false, reduceCtorEq, decide_true, decide_false, Nat.add_zero, Nat.zero_add, Nat.reduceAdd, Nat.reduceMul, Bool.bne_false, Bool.bne_true, eqPtr, Option.isNone_some, Option.isNone_none, List.getElem?_cons_zero, List.getElem?_cons_succ, Option.isSome_none, Option.isSome_some , hload, hstore, List.length_cons, List.length_nil, Nat.reduceAdd, Nat.reduceLeDiff, decide_true, List.all_cons, List.all_nil, one, Bool.and_true, Bool.true_and, Bool.and_self, splice, List.set_cons_zero, List.set_cons_succ, List.getElem?_cons_zero, List.getElem?_cons_succ, vc_int, vc_slice, vc_str, vc_bool, vc_int', vc_slice', vc_str', vc_bool', List.length_set, List.length_append, Nat.lt_irrefl, Nat.lt_add_one, and_self, true_and, and_true, lenV, cellsOfSlice, Nat.le_refl, if_true , limit, width most hm.2, hsp, hwr, hc, h1, ne_eq, not_false_eq_true]
    rw [if_pos (by simpa using h1)] at hk
    exact hk _ hst (setR_frm _ _ _)

end Go.Proofs.Ytlbhbjaimcinbaa.AI
