/- BitioSigned in the interpreter. -/
import Derived.Test.YtlbhbjaimcinbaaP3
import Derived.Test.YtlbhbjaimcinbaaS0
set_option linter.unusedSimpArgs false
namespace Go.Proofs.Ytlbhbjaimcinbaa.AI
open Go

theorem binV_seq (s : ByteArray) : binV .eql (.string s) (.string s) = some (.bool true) := by
  simp only [binV, Op.stringOp]; simp; rfl
theorem pow_cast (k : Nat) : (2 : Int) ^ k = ((2 ^ k : Nat) : Int) := by push_cast; rfl
theorem pow_dvd_pow_int {k j : Nat} (h : k ≤ j) : (2 : Int) ^ k ∣ 2 ^ j := ⟨2 ^ (j - k), by rw [← Int.pow_add]; congr 1; omega⟩
theorem u64_mod (n : Int) {k : Nat} (hk : k ≤ 64) : (((u64 n % 2 ^ k : Nat)) : Int) = n % 2 ^ k := by
  unfold u64
  have h0 : (0 : Int) ≤ n % 18446744073709551616 := by omega
  rw [Int.natCast_emod, Int.toNat_of_nonneg h0, ← pow_cast]
  exact Int.emod_emod_of_dvd n (by rw [show (18446744073709551616 : Int) = 2 ^ 64 by decide]; exact pow_dvd_pow_int hk)

/-- A number and its rest. -/
theorem signed_back {n : Int} {m : Nat} (h1 : -2 ^ m ≤ n) (h2 : n < 2 ^ m) : (if (2 : Int) ^ m ≤ n % 2 ^ (m + 1) then n % 2 ^ (m + 1) - 2 ^ (m + 1) else n % 2 ^ (m + 1)) = n := by
  have hp : (2 : Int) ^ (m + 1) = 2 * 2 ^ m := by rw [Int.pow_succ]; omega
  have hq := pow_pos' m
  rw [hp]
  generalize (2 : Int) ^ m = q at *
  by_cases h : 0 ≤ n
  · have : n % (2 * q) = n := Int.emod_eq_of_lt h (by omega)
    rw [this, if_neg (by omega)]
  · have : n % (2 * q) = n + 2 * q := by
      have h3 : (n + 2 * q) % (2 * q) = n % (2 * q) := by simp
      rw [← h3]; exact Int.emod_eq_of_lt (by omega) (by omega)
    rw [this, if_pos (by omega)]; omega

theorem read_back {n : Int} {m : Nat} {s : ByteArray} (hm : 1 ≤ m ∧ m ≤ 61) (h1 : -2 ^ m ≤ n) (h2 : n < 2 ^ m) (hs : IsStr (bitsOf (m + 1) (u64 n)) s) : newR s = ⟨s, 0, 0⟩ ∧ ((⟨s, 0, 0⟩ : RS).signed ((m + 1 : Nat) : Int)).1 = n := by
  have hsz : s.size = (m + 1 + 7) / 8 := by
    obtain ⟨d, _, hd, rfl⟩ := hs
    rw [strOf_size, hd, bitsOf_length]
  have hnr : newR s = ⟨s, 0, 0⟩ := by unfold newR; rw [if_neg (by omega)]
  refine ⟨hnr, ?_⟩
  have hv : valOf s 0 (m + 1) = u64 n % 2 ^ (m + 1) := valOf_read hs (by omega) (fun i hi => by
    rw [Nat.zero_add, List.getD_eq_getElem?_getD, bitsOf_get _ _ _ hi]; rfl)
  have hf : (⟨s, 0, 0⟩ : RS).field true ((m + 1 : Nat) : Int) = (u64 n % 2 ^ (m + 1), ⟨s, m + 1, 0⟩) := by
    unfold RS.field
    rw [if_neg (by simp), if_neg (by simp), if_neg (by simp [RS.left]; omega)]
    simp only [Int.toNat_natCast, hv, Nat.zero_add]
  have hd : decide ((2 : Int) ≤ ((m + 1 : Nat) : Int) ∧ ((m + 1 : Nat) : Int) ≤ 63) = true := by simp; omega
  have hmod := u64_mod n (k := m + 1) (by omega)
  have hb := signed_back h1 h2
  simp only [RS.signed, hd, hf, Int.toNat_natCast, Nat.add_sub_cancel, true_and]
  rw [← hmod] at hb
  have hc : (2 : Int) ^ m ≤ ((u64 n % 2 ^ (m + 1) : Nat) : Int) ↔ 2 ^ m ≤ u64 n % 2 ^ (m + 1) := by rw [pow_cast]; omega
  by_cases h : 2 ^ m ≤ u64 n % 2 ^ (m + 1)
  · rw [if_pos (hc.2 h)] at hb; rw [if_pos h]; exact hb
  · rw [if_neg (fun hh => h (hc.1 hh))] at hb; rw [if_neg h]; exact hb

theorem signed (H : Heap) (a n : Int) (ha : 0 ≤ a ∧ a < 256) (hn : Is64 n) : Op1 (AC tbl 6 [.int .u8 a, .int .i64 n] H) fun v _ => v = .bool true := by
  apply AC_wp (F := F6) rfl (by simp [F6]) (.inl rfl)
  obtain ⟨b, rfl⟩ : ∃ b : Nat, a = b := ⟨a.toNat, by omega⟩
  have w1 : IntKind.i64.wrap (b : Int) = (b : Int) := wrap_i64 (by omega) (by omega)
  have w2 : binV .rem (.int .i64 (b : Int)) (.int .i64 61) = some (.int .i64 ((b % 61 : Nat) : Int)) := by rw [binV_rem _ _ _ (by omega)]; rfl
  obtain ⟨m, hm⟩ : ∃ m : Nat, m = b % 61 + 1 := ⟨_, rfl⟩
  have w3 : IntKind.i64.wrap (2 + ((b % 61 : Nat) : Int)) = ((m + 1 : Nat) : Int) := by rw [wrap_i64 (by omega) (by omega)]; omega
  have w4 : IntKind.i64.wrap (((m + 1 : Nat) : Int) - 1) = (m : Int) := by rw [wrap_i64 (by omega) (by omega)]; omega
  have hm1 : 1 ≤ m ∧ m ≤ 61 := by omega
  have q1 := pow_small (k := m) (by omega)
  have q2 := pow_small (k := m + 1) (by omega)
  have q3 := pow_pos' m
  have hp2 : (2 : Int) ^ (m + 1) = 2 * 2 ^ m := by rw [Int.pow_succ]; omega
  have s1 := shl_int 1 m (.inl rfl) (by omega)
  have s2 := shl_int 1 (m + 1) (.inl rfl) (by omega)
  rw [Int.one_mul] at s1 s2
  have w5 : IntKind.i64.wrap (0 - 2 ^ m) = -2 ^ m := by rw [wrap_i64 (by omega) (by omega)]; omega
  have g1 : WSt (H ++ [some ⟨true, [.slice none 0 0, .int .i64 0, .int .i64 0]⟩] ++ [some ⟨true, [.slice none 0 0, .int .i64 0, .int .i64 0]⟩]) H.length none [] 0 := (newWriter_st H).frame (O := []) ((Frm.refl _ _).push _) (by simp) (by simp)
  have g2 : WSt (H ++ [some ⟨true, [.slice none 0 0, .int .i64 0, .int .i64 0]⟩] ++ [some ⟨true, [.slice none 0 0, .int .i64 0, .int .i64 0]⟩]) (H.length + 1) none [] 0 := by
    have := newWriter_st (H ++ [some ⟨true, [.slice none 0 0, .int .i64 0, .int .i64 0]⟩])
    simpa using this
  have fw : (2 : Int) ≤ ((m + 1 : Nat) : Int) ∧ ((m + 1 : Nat) : Int) ≤ 63 := by omega
  have ft : (((m + 1 : Nat) : Int)).toNat = m + 1 := by omega
  simp only [F6, ↓RW_seq, ↓AW_ret, ↓AW_skip, ↓AW_exit, ↓AW_block, ↓RW_cond, ↓RW_reg, ↓RW_regd, ↓RO_op, ↓RO_t, ↓RO_f, ↓RO_nt, ↓RO_nf, ↓AO_nil, ↓RD_op, ↓RD_t, ↓RD_f, ↓RD_nt, ↓RD_fe, ↓RD_nte, ↓RD_nf, ↓AOD_nil, CDops_eff, CDops_no, CDops_1, CDops_2, Again_nil, Again_cons, Same1_int, Same1_bool, Same1_str, Same1_ptr, Same1_slice, Same1_nil, CSeq_ap, CReg_ap, COps_ap, Then_normal, Then_ret, Then_exit, InBlock_normal, InBlock_ret, InBlock_self, InBlock_exit, Ends_ret, Ends_normal, ares, tup, finO_some, fin_same, fin_false, argsE, dval, aop, ev, evs, evo, evp, fillL, addrOf, intOf?, lk_put, lk_none, lk_cons, lk_nil, keep_nil, keep_cons, Op1_some, Option.map_some, Option.bind_some, reduceIte, Nat.reduceEqDiff, binV_lss, binV_leq, binV_gtr, binV_geq, binV_eql, binV_neq, binV_add, binV_sub, binV_mul, un_not, CondA_false, CondA_true, Bool.not_true, Bool.not_false, reduceCtorEq, decide_true, decide_false, Nat.add_zero, Nat.zero_add, Nat.reduceAdd, Nat.reduceMul, Bool.bne_false, Bool.bne_true, eqPtr, Option.isNone_some, Option.isNone_none, List.getElem?_cons_zero, List.getElem?_cons_succ, Option.isSome_none, Option.isSome_some , hload, hstore, List.length_cons, List.length_nil, Nat.reduceAdd, Nat.reduceLeDiff, decide_true, List.all_cons, List.all_nil, one, Bool.and_true, Bool.true_and, Bool.and_self, splice, List.set_cons_zero, List.set_cons_succ, List.getElem?_cons_zero, List.getElem?_cons_succ, vc_int, vc_slice, vc_str, vc_bool, vc_int', vc_slice', vc_str', vc_bool', List.length_set, List.length_append, Nat.lt_irrefl, Nat.lt_add_one, and_self, true_and, and_true, lenV, cellsOfSlice, Nat.le_refl, if_true , awake_any, w1, w2, w3, newWriter_eq]
  refine signed_spec (s := ⟨[], 0⟩) g1 (by simp) fun H1 o1 k1 k2 k3 => ?_
  have g3 := g2.frame k2 (by simp) (by simp)
  by_cases hr : -2 ^ m ≤ n ∧ n < 2 ^ m
  · obtain ⟨r1, r2⟩ := hr
    have e1 : WS.signed ⟨[], 0⟩ ((m + 1 : Nat) : Int) n = ⟨bitsOf (m + 1) (u64 n), 0⟩ := by
      have f3 : ¬ (524288 : Int) < ((([] : List Bool).length : Nat) : Int) + ((m + 1 : Nat) : Int) := by simp; omega
      simp only [WS.signed, WS.field, ft, Nat.add_sub_cancel, fw, r1, r2, and_self, decide_true, ne_eq, not_true_eq_false, if_false, Bool.true_eq_false, f3, List.nil_append]
    rw [e1] at k1
    obtain ⟨s3, is3, b3⟩ := bytes_spec k1
    simp only [if_true] at b3 is3
    obtain ⟨hnr, hback⟩ := read_back hm1 r1 r2 is3
    have nlt : ¬ n < -2 ^ m := by omega
    have nge : ¬ 2 ^ m ≤ n := by omega
    have tail : ∀ u : Int, 0 ≤ u → u < 2 ^ (m + 1) → u % 2 ^ (m + 1) = n % 2 ^ (m + 1) → WS.unsigned ⟨[], 0⟩ ((m + 1 : Nat) : Int) u = ⟨bitsOf (m + 1) (u64 n), 0⟩ := by
      intro u u0 u1 u2
      have f2 : (1 : Int) ≤ ((m + 1 : Nat) : Int) ∧ ((m + 1 : Nat) : Int) ≤ 63 := by omega
      have f3 : ¬ (524288 : Int) < ((([] : List Bool).length : Nat) : Int) + ((m + 1 : Nat) : Int) := by simp; omega
      have hbm : bitsOf (m + 1) (u64 u) = bitsOf (m + 1) (u64 n) := by
        apply bitsOf_mod
        have a1 := u64_mod u (k := m + 1) (by omega)
        have a2 := u64_mod n (k := m + 1) (by omega)
        rw [u2, ← a2] at a1
        exact Int.ofNat.inj a1
      simp only [WS.unsigned, WS.field, ne_eq, not_true_eq_false, if_false, f2, and_self, decide_true, true_and, u0, ft, u1, f3, List.nil_append, Bool.true_eq_false, hbm]
    have hend : ∀ (H2 : Heap), AC tbl 27 [.pointer (some ⟨H2.length, 0, none⟩), .int .i64 ((m + 1 : Nat) : Int)] (H2 ++ [some ⟨true, (⟨s3, 0, 0⟩ : RS).cells⟩]) = some (.int .i64 n, setR (H2 ++ [some ⟨true, (⟨s3, 0, 0⟩ : RS).cells⟩]) H2.length ((⟨s3, 0, 0⟩ : RS).signed ((m + 1 : Nat) : Int)).2) := by
      intro H2
      have ho : (⟨s3, 0, 0⟩ : RS).Ok := hnr ▸ newR_ok s3
      have := rsigned_spec (H := H2 ++ [some ⟨true, (⟨s3, 0, 0⟩ : RS).cells⟩]) (p := H2.length) (r := ⟨s3, 0, 0⟩) (w := ((m + 1 : Nat) : Int)) (show hget _ _ = _ from hget_append_self) ho
      rw [hback] at this; exact this
    by_cases h0 : n < 0
    · have w6 : IntKind.i64.wrap (n + 2 ^ (m + 1)) = n + 2 ^ (m + 1) := wrap_i64 (by omega) (by omega)
      simp only [↓RW_seq, ↓AW_ret, ↓AW_skip, ↓AW_exit, ↓AW_block, ↓RW_cond, ↓RW_reg, ↓RW_regd, ↓RO_op, ↓RO_t, ↓RO_f, ↓RO_nt, ↓RO_nf, ↓AO_nil, ↓RD_op, ↓RD_t, ↓RD_f, ↓RD_nt, ↓RD_fe, ↓RD_nte, ↓RD_nf, ↓AOD_nil, CDops_eff, CDops_no, CDops_1, CDops_2, Again_nil, Again_cons, Same1_int, Same1_bool, Same1_str, Same1_ptr, Same1_slice, Same1_nil, CSeq_ap, CReg_ap, COps_ap, Then_normal, Then_ret, Then_exit, InBlock_normal, InBlock_ret, InBlock_self, InBlock_exit, Ends_ret, Ends_normal, ares, tup, finO_some, fin_same, fin_false, argsE, dval, aop, ev, evs, evo, evp, fillL, addrOf, intOf?, lk_put, lk_none, lk_cons, lk_nil, keep_nil, keep_cons, Op1_some, Option.map_some, Option.bind_some, reduceIte, Nat.reduceEqDiff, binV_lss, binV_leq, binV_gtr, binV_geq, binV_eql, binV_neq, binV_add, binV_sub, binV_mul, un_not, CondA_false, CondA_true, Bool.not_true, Bool.not_false, reduceCtorEq, decide_true, decide_false, Nat.add_zero, Nat.zero_add, Nat.reduceAdd, Nat.reduceMul, Bool.bne_false, Bool.bne_true, eqPtr, Option.isNone_some, Option.isNone_none, List.getElem?_cons_zero, List.getElem?_cons_succ, Option.isSome_none, Option.isSome_some , hload, hstore, List.length_cons, List.length_nil, Nat.reduceAdd, Nat.reduceLeDiff, decide_true, List.all_cons, List.all_nil, one, Bool.and_true, Bool.true_and, Bool.and_self, splice, List.set_cons_zero, List.set_cons_succ, List.getElem?_cons_zero, List.getElem?_cons_succ, vc_int, vc_slice, vc_str, vc_bool, vc_int', vc_slice', vc_str', vc_bool', List.length_set, List.length_append, Nat.lt_irrefl, Nat.lt_add_one, and_self, true_and, and_true, lenV, cellsOfSlice, Nat.le_refl, if_true , b3, w4, s1, un_neg, w5, nlt, nge, h0, s2, w6]
      refine unsigned_spec (s := ⟨[], 0⟩) g3 (by simp) ⟨by omega, by omega⟩ fun H2 o2 m1 m2 m3 => ?_
      rw [tail _ (by omega) (by omega) (by simp)] at m1
      obtain ⟨s4, is4, b4⟩ := bytes_spec m1
      simp only [if_true] at b4 is4
      obtain rfl := is3.same is4
      simp only [↓RW_seq, ↓AW_ret, ↓AW_skip, ↓AW_exit, ↓AW_block, ↓RW_cond, ↓RW_reg, ↓RW_regd, ↓RO_op, ↓RO_t, ↓RO_f, ↓RO_nt, ↓RO_nf, ↓AO_nil, ↓RD_op, ↓RD_t, ↓RD_f, ↓RD_nt, ↓RD_fe, ↓RD_nte, ↓RD_nf, ↓AOD_nil, CDops_eff, CDops_no, CDops_1, CDops_2, Again_nil, Again_cons, Same1_int, Same1_bool, Same1_str, Same1_ptr, Same1_slice, Same1_nil, CSeq_ap, CReg_ap, COps_ap, Then_normal, Then_ret, Then_exit, InBlock_normal, InBlock_ret, InBlock_self, InBlock_exit, Ends_ret, Ends_normal, ares, tup, finO_some, fin_same, fin_false, argsE, dval, aop, ev, evs, evo, evp, fillL, addrOf, intOf?, lk_put, lk_none, lk_cons, lk_nil, keep_nil, keep_cons, Op1_some, Option.map_some, Option.bind_some, reduceIte, Nat.reduceEqDiff, binV_lss, binV_leq, binV_gtr, binV_geq, binV_eql, binV_neq, binV_add, binV_sub, binV_mul, un_not, CondA_false, CondA_true, Bool.not_true, Bool.not_false, reduceCtorEq, decide_true, decide_false, Nat.add_zero, Nat.zero_add, Nat.reduceAdd, Nat.reduceMul, Bool.bne_false, Bool.bne_true, eqPtr, Option.isNone_some, Option.isNone_none, List.getElem?_cons_zero, List.getElem?_cons_succ, Option.isSome_none, Option.isSome_some , hload, hstore, List.length_cons, List.length_nil, Nat.reduceAdd, Nat.reduceLeDiff, decide_true, List.all_cons, List.all_nil, one, Bool.and_true, Bool.true_and, Bool.and_self, splice, List.set_cons_zero, List.set_cons_succ, List.getElem?_cons_zero, List.getElem?_cons_succ, vc_int, vc_slice, vc_str, vc_bool, vc_int', vc_slice', vc_str', vc_bool', List.length_set, List.length_append, Nat.lt_irrefl, Nat.lt_add_one, and_self, true_and, and_true, lenV, cellsOfSlice, Nat.le_refl, if_true , b4, newReader_eq, hnr, hend, binV_seq, eq_self]
    · simp only [↓RW_seq, ↓AW_ret, ↓AW_skip, ↓AW_exit, ↓AW_block, ↓RW_cond, ↓RW_reg, ↓RW_regd, ↓RO_op, ↓RO_t, ↓RO_f, ↓RO_nt, ↓RO_nf, ↓AO_nil, ↓RD_op, ↓RD_t, ↓RD_f, ↓RD_nt, ↓RD_fe, ↓RD_nte, ↓RD_nf, ↓AOD_nil, CDops_eff, CDops_no, CDops_1, CDops_2, Again_nil, Again_cons, Same1_int, Same1_bool, Same1_str, Same1_ptr, Same1_slice, Same1_nil, CSeq_ap, CReg_ap, COps_ap, Then_normal, Then_ret, Then_exit, InBlock_normal, InBlock_ret, InBlock_self, InBlock_exit, Ends_ret, Ends_normal, ares, tup, finO_some, fin_same, fin_false, argsE, dval, aop, ev, evs, evo, evp, fillL, addrOf, intOf?, lk_put, lk_none, lk_cons, lk_nil, keep_nil, keep_cons, Op1_some, Option.map_some, Option.bind_some, reduceIte, Nat.reduceEqDiff, binV_lss, binV_leq, binV_gtr, binV_geq, binV_eql, binV_neq, binV_add, binV_sub, binV_mul, un_not, CondA_false, CondA_true, Bool.not_true, Bool.not_false, reduceCtorEq, decide_true, decide_false, Nat.add_zero, Nat.zero_add, Nat.reduceAdd, Nat.reduceMul, Bool.bne_false, Bool.bne_true, eqPtr, Option.isNone_some, Option.isNone_none, List.getElem?_cons_zero, List.getElem?_cons_succ, Option.isSome_none, Option.isSome_some , hload, hstore, List.length_cons, List.length_nil, Nat.reduceAdd, Nat.reduceLeDiff, decide_true, List.all_cons, List.all_nil, one, Bool.and_true, Bool.true_and, Bool.and_self, splice, List.set_cons_zero, List.set_cons_succ, List.getElem?_cons_zero, List.getElem?_cons_succ, vc_int, vc_slice, vc_str, vc_bool, vc_int', vc_slice', vc_str', vc_bool', List.length_set, List.length_append, Nat.lt_irrefl, Nat.lt_add_one, and_self, true_and, and_true, lenV, cellsOfSlice, Nat.le_refl, if_true , b3, w4, s1, un_neg, w5, nlt, nge, h0]
      refine unsigned_spec (s := ⟨[], 0⟩) g3 (by simp) hn fun H2 o2 m1 m2 m3 => ?_
      rw [tail _ (by omega) (by omega) rfl] at m1
      obtain ⟨s4, is4, b4⟩ := bytes_spec m1
      simp only [if_true] at b4 is4
      obtain rfl := is3.same is4
      simp only [↓RW_seq, ↓AW_ret, ↓AW_skip, ↓AW_exit, ↓AW_block, ↓RW_cond, ↓RW_reg, ↓RW_regd, ↓RO_op, ↓RO_t, ↓RO_f, ↓RO_nt, ↓RO_nf, ↓AO_nil, ↓RD_op, ↓RD_t, ↓RD_f, ↓RD_nt, ↓RD_fe, ↓RD_nte, ↓RD_nf, ↓AOD_nil, CDops_eff, CDops_no, CDops_1, CDops_2, Again_nil, Again_cons, Same1_int, Same1_bool, Same1_str, Same1_ptr, Same1_slice, Same1_nil, CSeq_ap, CReg_ap, COps_ap, Then_normal, Then_ret, Then_exit, InBlock_normal, InBlock_ret, InBlock_self, InBlock_exit, Ends_ret, Ends_normal, ares, tup, finO_some, fin_same, fin_false, argsE, dval, aop, ev, evs, evo, evp, fillL, addrOf, intOf?, lk_put, lk_none, lk_cons, lk_nil, keep_nil, keep_cons, Op1_some, Option.map_some, Option.bind_some, reduceIte, Nat.reduceEqDiff, binV_lss, binV_leq, binV_gtr, binV_geq, binV_eql, binV_neq, binV_add, binV_sub, binV_mul, un_not, CondA_false, CondA_true, Bool.not_true, Bool.not_false, reduceCtorEq, decide_true, decide_false, Nat.add_zero, Nat.zero_add, Nat.reduceAdd, Nat.reduceMul, Bool.bne_false, Bool.bne_true, eqPtr, Option.isNone_some, Option.isNone_none, List.getElem?_cons_zero, List.getElem?_cons_succ, Option.isSome_none, Option.isSome_some , hload, hstore, List.length_cons, List.length_nil, Nat.reduceAdd, Nat.reduceLeDiff, decide_true, List.all_cons, List.all_nil, one, Bool.and_true, Bool.true_and, Bool.and_self, splice, List.set_cons_zero, List.set_cons_succ, List.getElem?_cons_zero, List.getElem?_cons_succ, vc_int, vc_slice, vc_str, vc_bool, vc_int', vc_slice', vc_str', vc_bool', List.length_set, List.length_append, Nat.lt_irrefl, Nat.lt_add_one, and_self, true_and, and_true, lenV, cellsOfSlice, Nat.le_refl, if_true , b4, newReader_eq, hnr, hend, binV_seq, eq_self]
  · have e1 : WS.signed ⟨[], 0⟩ ((m + 1 : Nat) : Int) n = ⟨[], 2⟩ := by
      simp only [WS.signed, WS.field, ft, Nat.add_sub_cancel, fw, hr, and_self, and_false, decide_true, decide_false, ne_eq, not_true_eq_false, if_false, Bool.true_eq_false, if_true]
    rw [e1] at k1
    obtain ⟨s3, is3, b3⟩ := bytes_spec k1
    have n2 : ¬ (2 : Int) = 0 := by decide
    simp only [n2, if_false] at b3
    by_cases hr1 : n < -2 ^ m
    · simp only [↓RW_seq, ↓AW_ret, ↓AW_skip, ↓AW_exit, ↓AW_block, ↓RW_cond, ↓RW_reg, ↓RW_regd, ↓RO_op, ↓RO_t, ↓RO_f, ↓RO_nt, ↓RO_nf, ↓AO_nil, ↓RD_op, ↓RD_t, ↓RD_f, ↓RD_nt, ↓RD_fe, ↓RD_nte, ↓RD_nf, ↓AOD_nil, CDops_eff, CDops_no, CDops_1, CDops_2, Again_nil, Again_cons, Same1_int, Same1_bool, Same1_str, Same1_ptr, Same1_slice, Same1_nil, CSeq_ap, CReg_ap, COps_ap, Then_normal, Then_ret, Then_exit, InBlock_normal, InBlock_ret, InBlock_self, InBlock_exit, Ends_ret, Ends_normal, ares, tup, finO_some, fin_same, fin_false, argsE, dval, aop, ev, evs, evo, evp, fillL, addrOf, intOf?, lk_put, lk_none, lk_cons, lk_nil, keep_nil, keep_cons, Op1_some, Option.map_some, Option.bind_some, reduceIte, Nat.reduceEqDiff, binV_lss, binV_leq, binV_gtr, binV_geq, binV_eql, binV_neq, binV_add, binV_sub, binV_mul, un_not, CondA_false, CondA_true, Bool.not_true, Bool.not_false, reduceCtorEq, decide_true, decide_false, Nat.add_zero, Nat.zero_add, Nat.reduceAdd, Nat.reduceMul, Bool.bne_false, Bool.bne_true, eqPtr, Option.isNone_some, Option.isNone_none, List.getElem?_cons_zero, List.getElem?_cons_succ, Option.isSome_none, Option.isSome_some , hload, hstore, List.length_cons, List.length_nil, Nat.reduceAdd, Nat.reduceLeDiff, decide_true, List.all_cons, List.all_nil, one, Bool.and_true, Bool.true_and, Bool.and_self, splice, List.set_cons_zero, List.set_cons_succ, List.getElem?_cons_zero, List.getElem?_cons_succ, vc_int, vc_slice, vc_str, vc_bool, vc_int', vc_slice', vc_str', vc_bool', List.length_set, List.length_append, Nat.lt_irrefl, Nat.lt_add_one, and_self, true_and, and_true, lenV, cellsOfSlice, Nat.le_refl, if_true , b3, w4, s1, un_neg, w5, hr1, binV_seq, eq_self]
    · have hr2 : 2 ^ m ≤ n := by omega
      simp only [↓RW_seq, ↓AW_ret, ↓AW_skip, ↓AW_exit, ↓AW_block, ↓RW_cond, ↓RW_reg, ↓RW_regd, ↓RO_op, ↓RO_t, ↓RO_f, ↓RO_nt, ↓RO_nf, ↓AO_nil, ↓RD_op, ↓RD_t, ↓RD_f, ↓RD_nt, ↓RD_fe, ↓RD_nte, ↓RD_nf, ↓AOD_nil, CDops_eff, CDops_no, CDops_1, CDops_2, Again_nil, Again_cons, Same1_int, Same1_bool, Same1_str, Same1_ptr, Same1_slice, Same1_nil, CSeq_ap, CReg_ap, COps_ap, Then_normal, Then_ret, Then_exit, InBlock_normal, InBlock_ret, InBlock_self, InBlock_exit, Ends_ret, Ends_normal, ares, tup, finO_some, fin_same, fin_false, argsE, dval, aop, ev, evs, evo, evp, fillL, addrOf, intOf?, lk_put, lk_none, lk_cons, lk_nil, keep_nil, keep_cons, Op1_some, Option.map_some, Option.bind_some, reduceIte, Nat.reduceEqDiff, binV_lss, binV_leq, binV_gtr, binV_geq, binV_eql, binV_neq, binV_add, binV_sub, binV_mul, un_not, CondA_false, CondA_true, Bool.not_true, Bool.not_false, reduceCtorEq, decide_true, decide_false, Nat.add_zero, Nat.zero_add, Nat.reduceAdd, Nat.reduceMul, Bool.bne_false, Bool.bne_true, eqPtr, Option.isNone_some, Option.isNone_none, List.getElem?_cons_zero, List.getElem?_cons_succ, Option.isSome_none, Option.isSome_some , hload, hstore, List.length_cons, List.length_nil, Nat.reduceAdd, Nat.reduceLeDiff, decide_true, List.all_cons, List.all_nil, one, Bool.and_true, Bool.true_and, Bool.and_self, splice, List.set_cons_zero, List.set_cons_succ, List.getElem?_cons_zero, List.getElem?_cons_succ, vc_int, vc_slice, vc_str, vc_bool, vc_int', vc_slice', vc_str', vc_bool', List.length_set, List.length_append, Nat.lt_irrefl, Nat.lt_add_one, and_self, true_and, and_true, lenV, cellsOfSlice, Nat.le_refl, if_true , b3, w4, s1, un_neg, w5, hr1, hr2, binV_seq, eq_self]

end Go.Proofs.Ytlbhbjaimcinbaa.AI
