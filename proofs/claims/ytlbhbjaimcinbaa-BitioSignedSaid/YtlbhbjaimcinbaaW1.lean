/- The writer's memory, and a field's bits laid into it. -/
import Derived.Test.YtlbhbjaimcinbaaC2
import Derived.Test.YtlbhbjaimcinbaaP2
set_option linter.unusedSimpArgs false
namespace Go.Proofs.Ytlbhbjaimcinbaa.AI
open Go

theorem AW_seq_mid {tbl : Nat → Option AFn} {a b : ACode} {e : Env} {H : Heap} {Q : AExit → Env → Heap → Prop} (M : Env → Heap → Prop) (h1 : AW tbl a e H (Then M Q)) (h2 : ∀ e H, M e H → AW tbl b e H Q) : AW tbl (.seq a b) e H Q := by
  rw [AW_seq]
  refine h1.mono fun x e H hx => ?_
  cases x with
  | normal => exact h2 e H hx
  | ret => exact hx
  | exit i => exact hx

/-- Memory but for some blocks is as it was; new blocks may have come. -/
def Frm (O : List Nat) (H H' : Heap) : Prop := H.length ≤ H'.length ∧ ∀ i, i < H.length → i ∉ O → hget H' i = hget H i
theorem Frm.refl (O : List Nat) (H : Heap) : Frm O H H := ⟨Nat.le_refl _, fun _ _ _ => rfl⟩
theorem Frm.mono {O O' : List Nat} {H H' : Heap} (h : Frm O H H') (hs : ∀ i ∈ O, i ∈ O') : Frm O' H H' := ⟨h.1, fun i hi hn => h.2 i hi fun hm => hn (hs i hm)⟩
/-- Two steps: what the second writes was the first's, or is new. -/
theorem Frm.trans {O O' : List Nat} {H H1 H2 : Heap} (h : Frm O H H1) (k : Frm O' H1 H2) (hs : ∀ i ∈ O', i ∈ O ∨ H.length ≤ i) : Frm O H H2 := by
  refine ⟨Nat.le_trans h.1 k.1, fun i hi hn => ?_⟩
  rw [k.2 i (Nat.lt_of_lt_of_le hi h.1) (fun hm => ?_), h.2 i hi hn]
  rcases hs i hm with h1 | h1
  · exact hn h1
  · omega
theorem Frm.set {O : List Nat} {H H' : Heap} (h : Frm O H H') {i : Nat} (x : Option Blk) (hi : i ∈ O ∨ H.length ≤ i) : Frm O H (H'.set i x) := by
  refine ⟨by simpa using h.1, fun j hj hn => ?_⟩
  rw [hget_set_ne (fun e => by subst e; rcases hi with hi | hi; exact hn hi; omega)]
  exact h.2 j hj hn
theorem Frm.push {O : List Nat} {H H' : Heap} (h : Frm O H H') (x : Option Blk) : Frm O H (H' ++ [x]) := by
  refine ⟨by simp; have := h.1; omega, fun j hj hn => ?_⟩
  rw [hget_append_lt (by have := h.1; omega)]
  exact h.2 j hj hn

theorem hget_app {H : Heap} {x : Option Blk} {i : Nat} : hget (H ++ [x]) i = if i < H.length then hget H i else if i = H.length then x else none := by
  split
  · exact hget_append_lt ‹_›
  · split
    · rename_i h; subst h; simp [hget]
    · unfold hget; rw [List.getElem?_eq_none (by simp; omega)]; rfl

theorem vc_int (k : IntKind) (n : Int) : (Value.int k n).cells.size = 1 := rfl
theorem vc_slice (a : Option Addr) (n c : Nat) : (Value.slice a n c).cells.size = 1 := rfl
theorem vc_str (s : ByteArray) : (Value.string s).cells.size = 1 := rfl
theorem vc_bool (b : Bool) : (Value.bool b).cells.size = 1 := rfl
theorem vc_int' (k : IntKind) (n : Int) : (Value.int k n).cells.toList = [.int k n] := rfl
theorem vc_slice' (a : Option Addr) (n c : Nat) : (Value.slice a n c).cells.toList = [.slice a n c] := rfl
theorem vc_str' (s : ByteArray) : (Value.string s).cells.toList = [.string s] := rfl
theorem vc_bool' (b : Bool) : (Value.bool b).cells.toList = [.bool b] := rfl

theorem take1 (x : Value) : List.take 1 [x] = [x] := rfl
theorem hget_lt_app {H : Heap} {x : Option Blk} {i : Nat} (h : i < H.length) : hget (H ++ [x]) i = hget H i := hget_append_lt h

def u8s (d : List Nat) : List Value := d.map fun (x : Nat) => Value.int .u8 (x : Int)
theorem u8s_length (d : List Nat) : (u8s d).length = d.length := by simp [u8s]
theorem u8s_get (d : List Nat) (i : Nat) : (u8s d)[i]? = (d[i]?).map fun (x : Nat) => Value.int .u8 (x : Int) := by simp [u8s]
theorem u8s_set (d : List Nat) (i x : Nat) : (u8s d).set i (.int .u8 (x : Int)) = u8s (d.set i x) := by simp [u8s, List.map_set]
theorem u8s_append (a b : List Nat) : u8s a ++ u8s b = u8s (a ++ b) := by simp [u8s]

/-- The slice of a writer's bytes. -/
def sliceOf (o : Option Nat) (d : List Nat) : Value := match o with
  | none => .slice none 0 0
  | some q => .slice (some ⟨q, 0, none⟩) d.length 1

/-- A writer's memory: its own block and its bytes' block. -/
structure WRaw (H : Heap) (p : Nat) (o : Option Nat) (d : List Nat) (n : Nat) (err : Int) : Prop where
  blk : hget H p = some ⟨true, [sliceOf o d, .int .i64 (n : Int), .int .i64 err]⟩
  nil : o = none → d = []
  dat : ∀ q, o = some q → q ≠ p ∧ hget H q = some ⟨true, u8s d⟩

structure WSt (H : Heap) (p : Nat) (o : Option Nat) (bs : List Bool) (err : Int) : Prop where
  ex : ∃ d, WRaw H p o d bs.length err ∧ Bits d bs ∧ d.length = (bs.length + 7) / 8

theorem WRaw.frame {H H' : Heap} {p : Nat} {o : Option Nat} {d : List Nat} {n : Nat} {err : Int} (h : WRaw H p o d n err) {O : List Nat} (f : Frm O H H') (hp : p ∉ O) (ho : ∀ q, o = some q → q ∉ O) : WRaw H' p o d n err := by
  refine ⟨?_, h.nil, fun q hq => ⟨(h.dat q hq).1, ?_⟩⟩
  · rw [f.2 p (hget_lt h.blk) hp]; exact h.blk
  · rw [f.2 q (hget_lt (h.dat q hq).2) (ho q hq)]; exact (h.dat q hq).2
theorem WSt.frame {H H' : Heap} {p : Nat} {o : Option Nat} {bs : List Bool} {err : Int} (h : WSt H p o bs err) {O : List Nat} (f : Frm O H H') (hp : p ∉ O) (ho : ∀ q, o = some q → q ∉ O) : WSt H' p o bs err := by
  obtain ⟨d, h1, h2⟩ := h.ex
  exact ⟨d, h1.frame f hp ho, h2⟩

theorem rem8 (n : Nat) : binV .rem (.int .i64 (n : Int)) (.int .i64 8) = some (.int .i64 ((n % 8 : Nat) : Int)) := by
  rw [binV_rem _ _ _ (by omega)]; rfl
theorem quo8 (n : Nat) (h : n < 9223372036854775808) : binV .quo (.int .i64 (n : Int)) (.int .i64 8) = some (.int .i64 ((n / 8 : Nat) : Int)) := by
  rw [binV_quo _ _ _ (by omega), show ((n : Int)).tdiv 8 = ((n / 8 : Nat) : Int) from rfl, wrap_i64 (by omega) (by omega)]
theorem sub7 (n : Nat) (h : n ≤ 7) : IntKind.i64.wrap (7 - (n : Int)) = ((7 - n : Nat) : Int) := by
  rw [wrap_i64 (by omega) (by omega)]; omega
theorem shrN (a s : Nat) (hs : s ≤ 64) : binV .shr (.int .u64 a) (.int .i64 s) = some (.int .u64 ((a / 2 ^ s : Nat) : Int)) := by
  rw [binV_shr _ _ _ _ (by omega), shr_nat .u64 a s hs]
theorem wrap_bit (b : Bool) : IntKind.u8.wrap ((b.toNat : Nat) : Int) = ((b.toNat : Nat) : Int) := by cases b <;> rfl

theorem lt_bytes {d : List Nat} {n : Nat} (h : d.length = n + 1) : ∃ x, d[n]? = some x := ⟨d[n]'(by omega), List.getElem?_eq_getElem (by omega)⟩

/-- One bit more. -/
theorem put_one {H : Heap} {p : Nat} {o : Option Nat} {bs : List Bool} {err : Int} {n k : Nat} (hn : n < 18446744073709551616) (hk : k < 64) (hlen : bs.length < 600000) (h : WSt H p o bs err) (Q : AExit → Env → Heap → Prop) {e : Env} (he0 : lk e 0 = some (.pointer (some ⟨p, 0, none⟩))) (he2 : lk e 2 = some (.int .u64 n)) (he6 : lk e 6 = some (.int .i64 k))
    (hq : ∀ H' o', WSt H' p o' (bs ++ [n.testBit k]) err → Frm (p :: o.toList) H H' → (∀ q, o' = some q → o = some q ∨ H.length ≤ q) → Q .normal [(0, .pointer (some ⟨p, 0, none⟩)), (2, .int .u64 n), (6, .int .i64 k)] H')
    {body : ACode} (hbody : F56.body = .seq (.reg [⟨(some 7), none, .mov (.t 1)⟩,
  ⟨(some 8), none, .bin .sub (.t 7) (.c (.int .i64 1))⟩,
  ⟨(some 6), none, .mov (.t 8)⟩] [0, 2, 6]) (.block 0 (.loop (.seq (.seq (.reg [⟨(some 9), none, .mov (.t 6)⟩,
    ⟨(some 10), none, .bin .geq (.t 9) (.c (.int .i64 0))⟩] [0, 2, 6, 10])
   (.cond (.t 10)
    .skip
    (.exit 0)))
   (.seq (.block 1 body)
   (.reg [⟨(some 11), none, .mov (.t 6)⟩,
    ⟨(some 12), none, .bin .sub (.t 11) (.c (.int .i64 1))⟩,
    ⟨(some 6), none, .mov (.t 12)⟩] [0, 2, 6])))))) :
    AW tbl body e H Q := by
  simp only [F56, ACode.seq.injEq, ACode.block.injEq, ACode.loop.injEq, true_and, and_true] at hbody
  subst hbody
  obtain ⟨d, hw, hb, hd⟩ := h.ex
  apply AW_seq_mid (fun e H2 => (lk e 0 = some (.pointer (some ⟨p, 0, none⟩)) ∧ lk e 2 = some (.int .u64 n) ∧ lk e 6 = some (.int .i64 k)) ∧ ∃ o2 d2, WRaw H2 p o2 d2 bs.length err ∧ Bits d2 bs ∧ d2.length = bs.length / 8 + 1 ∧ Frm (p :: o.toList) H H2 ∧ (∀ q, o2 = some q → o = some q ∨ H.length ≤ q))
  · have hp := hw.blk
    have hpl := hget_lt hp
    by_cases hr : ((bs.length % 8 : Nat) : Int) = 0
    · have hd8 : d.length = bs.length / 8 := by omega
      cases o with
      | none =>
        obtain rfl := hw.nil rfl
        have hpl1 : p < H.length + 1 := by omega
        simp only [↓RW_seq, ↓AW_ret, ↓AW_skip, ↓AW_exit, ↓AW_block, ↓RW_cond, ↓RW_reg, ↓RW_regd, ↓RO_op, ↓RO_t, ↓RO_f, ↓RO_nt, ↓RO_nf, ↓AO_nil, ↓RD_op, ↓RD_t, ↓RD_f, ↓RD_nt, ↓RD_fe, ↓RD_nte, ↓RD_nf, ↓AOD_nil, CDops_eff, CDops_no, CDops_1, CDops_2, Again_nil, Again_cons, Same1_int, Same1_bool, Same1_str, Same1_ptr, Same1_slice, Same1_nil, CSeq_ap, CReg_ap, COps_ap, Then_normal, Then_ret, Then_exit, InBlock_normal, InBlock_ret, InBlock_self, InBlock_exit, Ends_ret, Ends_normal, ares, tup, finO_some, fin_same, fin_false, argsE, dval, aop, ev, evs, evo, evp, fillL, addrOf, intOf?, lk_put, lk_none, lk_cons, lk_nil, keep_nil, keep_cons, Op1_some, Option.map_some, Option.bind_some, reduceIte, Nat.reduceEqDiff, binV_lss, binV_leq, binV_gtr, binV_geq, binV_eql, binV_neq, binV_add, binV_sub, binV_mul, un_not, CondA_false, CondA_true, Bool.not_true, Bool.not_false, reduceCtorEq, decide_true, decide_false, Nat.add_zero, Nat.zero_add, Nat.reduceAdd, Nat.reduceMul , hload, hstore, List.length_cons, List.length_nil, Nat.reduceAdd, Nat.reduceLeDiff, decide_true, List.all_cons, List.all_nil, one, Bool.and_true, Bool.true_and, Bool.and_self, splice, List.set_cons_zero, List.set_cons_succ, List.getElem?_cons_zero, List.getElem?_cons_succ, vc_int, vc_slice, vc_str, vc_bool, vc_int', vc_slice', vc_str', vc_bool', List.length_set, List.length_append, Nat.lt_irrefl, Nat.lt_add_one, and_self, true_and, and_true, lenV, cellsOfSlice, Nat.le_refl, if_true , he0, he2, he6, hp, rem8, hr, sliceOf, hget_append_self, List.drop_zero, take1, hget_lt_app, hpl, hpl1]
        refine ⟨some (H.length + 1), [0], ⟨?_, fun h => by simp at h, fun q hq => ?_⟩, Bits.zero hb (by have hz := hd; rw [List.length_nil] at hz ⊢; omega), ?_, ?_, fun q hq => ?_⟩
        · rw [hget_set_self (by simp; omega)]; rfl
        · injection hq with hq
          subst hq
          refine ⟨by omega, ?_⟩
          rw [hget_set_ne (by omega), hget_app]
          simp; rfl
        · have hz := hd; rw [List.length_nil] at hz; simp; omega
        · exact (((Frm.refl _ _).push _).push _).set _ (by simp)
        · injection hq with hq; right; omega
      | some q =>
        obtain ⟨hqp, hq2⟩ := hw.dat q rfl
        have hql := hget_lt hq2
        have hpl1 : p < H.length + 1 := by omega
        have hql1 : q < H.length + 1 := by omega
        have hcap : d.length * 1 = (u8s d).length ∧ (d.length + 1) * 1 ≤ 1000000000 := by rw [u8s_length]; omega
        simp only [↓RW_seq, ↓AW_ret, ↓AW_skip, ↓AW_exit, ↓AW_block, ↓RW_cond, ↓RW_reg, ↓RW_regd, ↓RO_op, ↓RO_t, ↓RO_f, ↓RO_nt, ↓RO_nf, ↓AO_nil, ↓RD_op, ↓RD_t, ↓RD_f, ↓RD_nt, ↓RD_fe, ↓RD_nte, ↓RD_nf, ↓AOD_nil, CDops_eff, CDops_no, CDops_1, CDops_2, Again_nil, Again_cons, Same1_int, Same1_bool, Same1_str, Same1_ptr, Same1_slice, Same1_nil, CSeq_ap, CReg_ap, COps_ap, Then_normal, Then_ret, Then_exit, InBlock_normal, InBlock_ret, InBlock_self, InBlock_exit, Ends_ret, Ends_normal, ares, tup, finO_some, fin_same, fin_false, argsE, dval, aop, ev, evs, evo, evp, fillL, addrOf, intOf?, lk_put, lk_none, lk_cons, lk_nil, keep_nil, keep_cons, Op1_some, Option.map_some, Option.bind_some, reduceIte, Nat.reduceEqDiff, binV_lss, binV_leq, binV_gtr, binV_geq, binV_eql, binV_neq, binV_add, binV_sub, binV_mul, un_not, CondA_false, CondA_true, Bool.not_true, Bool.not_false, reduceCtorEq, decide_true, decide_false, Nat.add_zero, Nat.zero_add, Nat.reduceAdd, Nat.reduceMul , hload, hstore, List.length_cons, List.length_nil, Nat.reduceAdd, Nat.reduceLeDiff, decide_true, List.all_cons, List.all_nil, one, Bool.and_true, Bool.true_and, Bool.and_self, splice, List.set_cons_zero, List.set_cons_succ, List.getElem?_cons_zero, List.getElem?_cons_succ, vc_int, vc_slice, vc_str, vc_bool, vc_int', vc_slice', vc_str', vc_bool', List.length_set, List.length_append, Nat.lt_irrefl, Nat.lt_add_one, and_self, true_and, and_true, lenV, cellsOfSlice, Nat.le_refl, if_true , he0, he2, he6, hp, rem8, hr, sliceOf, hget_append_self, List.drop_zero, take1, hget_lt_app, hpl, hpl1, hql, hq2, hcap, hget_set_ne hqp]
        refine ⟨some (H.length + 1), d ++ [0], ⟨?_, fun h => by simp at h, fun q hq => ?_⟩, Bits.zero hb (by omega), ?_, ?_, fun q hq => ?_⟩
        · rw [hget_set_self (by simp; omega)]; simp [sliceOf]
        · injection hq with hq
          subst hq
          refine ⟨by omega, ?_⟩
          rw [hget_set_ne (by omega), hget_app]
          simp [u8s]
        · simp; omega
        · exact ((((Frm.refl _ _).push _).set _ (by simp)).push _).set _ (by simp)
        · injection hq with hq; right; omega
    · simp only [↓RW_seq, ↓AW_ret, ↓AW_skip, ↓AW_exit, ↓AW_block, ↓RW_cond, ↓RW_reg, ↓RW_regd, ↓RO_op, ↓RO_t, ↓RO_f, ↓RO_nt, ↓RO_nf, ↓AO_nil, ↓RD_op, ↓RD_t, ↓RD_f, ↓RD_nt, ↓RD_fe, ↓RD_nte, ↓RD_nf, ↓AOD_nil, CDops_eff, CDops_no, CDops_1, CDops_2, Again_nil, Again_cons, Same1_int, Same1_bool, Same1_str, Same1_ptr, Same1_slice, Same1_nil, CSeq_ap, CReg_ap, COps_ap, Then_normal, Then_ret, Then_exit, InBlock_normal, InBlock_ret, InBlock_self, InBlock_exit, Ends_ret, Ends_normal, ares, tup, finO_some, fin_same, fin_false, argsE, dval, aop, ev, evs, evo, evp, fillL, addrOf, intOf?, lk_put, lk_none, lk_cons, lk_nil, keep_nil, keep_cons, Op1_some, Option.map_some, Option.bind_some, reduceIte, Nat.reduceEqDiff, binV_lss, binV_leq, binV_gtr, binV_geq, binV_eql, binV_neq, binV_add, binV_sub, binV_mul, un_not, CondA_false, CondA_true, Bool.not_true, Bool.not_false, reduceCtorEq, decide_true, decide_false, Nat.add_zero, Nat.zero_add, Nat.reduceAdd, Nat.reduceMul , hload, hstore, List.length_cons, List.length_nil, Nat.reduceAdd, Nat.reduceLeDiff, decide_true, List.all_cons, List.all_nil, one, Bool.and_true, Bool.true_and, Bool.and_self, splice, List.set_cons_zero, List.set_cons_succ, List.getElem?_cons_zero, List.getElem?_cons_succ, vc_int, vc_slice, vc_str, vc_bool, vc_int', vc_slice', vc_str', vc_bool', List.length_set, List.length_append, Nat.lt_irrefl, Nat.lt_add_one, and_self, true_and, and_true, lenV, cellsOfSlice, Nat.le_refl, if_true , he0, he2, he6, hp, rem8, hr]
      exact ⟨o, d, hw, hb, by omega, Frm.refl _ _, fun q hq => .inl hq⟩
  · rintro e H2 ⟨⟨e0, e2, e6⟩, o2, d2, hw2, hb2, hd2, hf, hfr⟩
    have hp := hw2.blk
    have hpl := hget_lt hp
    obtain ⟨x, hx⟩ := lt_bytes hd2
    cases o2 with
    | none => rw [hw2.nil rfl] at hd2; simp at hd2
    | some q =>
      obtain ⟨hqp, hq2⟩ := hw2.dat q rfl
      have hql := hget_lt hq2
      have hj : bs.length / 8 + 1 ≤ d2.length := by omega
      have hidx : (0 : Int) ≤ ((bs.length / 8 : Nat) : Int) ∧ ((bs.length / 8 : Nat) : Int) < (d2.length : Int) := by omega
      have hxs : x < 256 := hb2.small x (List.mem_of_getElem? hx)
      have hn2 : n / 2 ^ k < 18446744073709551616 := Nat.lt_of_le_of_lt (Nat.div_le_self _ _) hn
      have hs7 : 7 - bs.length % 8 ≤ 7 := by omega
      have hb8 : (n.testBit k).toNat <<< (7 - bs.length % 8) < 256 := by
        rw [Nat.shiftLeft_eq]
        have h1 : 2 ^ (7 - bs.length % 8) ≤ 2 ^ 7 := Nat.pow_le_pow_right (by omega) (by omega)
        have h2 : (n.testBit k).toNat ≤ 1 := by cases n.testBit k <;> simp
        calc (n.testBit k).toNat * 2 ^ (7 - bs.length % 8) ≤ 1 * 2 ^ 7 := Nat.mul_le_mul h2 h1
          _ < 256 := by decide
      have hw1 : IntKind.i64.wrap ((bs.length : Int) + 1) = ((bs.length + 1 : Nat) : Int) := by rw [wrap_i64 (by omega) (by omega)]; rfl
      have hg : (u8s d2)[bs.length / 8]? = some (Value.int .u8 (x : Int)) := by rw [u8s_get, hx]; rfl
      simp only [↓RW_seq, ↓AW_ret, ↓AW_skip, ↓AW_exit, ↓AW_block, ↓RW_cond, ↓RW_reg, ↓RW_regd, ↓RO_op, ↓RO_t, ↓RO_f, ↓RO_nt, ↓RO_nf, ↓AO_nil, ↓RD_op, ↓RD_t, ↓RD_f, ↓RD_nt, ↓RD_fe, ↓RD_nte, ↓RD_nf, ↓AOD_nil, CDops_eff, CDops_no, CDops_1, CDops_2, Again_nil, Again_cons, Same1_int, Same1_bool, Same1_str, Same1_ptr, Same1_slice, Same1_nil, CSeq_ap, CReg_ap, COps_ap, Then_normal, Then_ret, Then_exit, InBlock_normal, InBlock_ret, InBlock_self, InBlock_exit, Ends_ret, Ends_normal, ares, tup, finO_some, fin_same, fin_false, argsE, dval, aop, ev, evs, evo, evp, fillL, addrOf, intOf?, lk_put, lk_none, lk_cons, lk_nil, keep_nil, keep_cons, Op1_some, Option.map_some, Option.bind_some, reduceIte, Nat.reduceEqDiff, binV_lss, binV_leq, binV_gtr, binV_geq, binV_eql, binV_neq, binV_add, binV_sub, binV_mul, un_not, CondA_false, CondA_true, Bool.not_true, Bool.not_false, reduceCtorEq, decide_true, decide_false, Nat.add_zero, Nat.zero_add, Nat.reduceAdd, Nat.reduceMul , hload, hstore, List.length_cons, List.length_nil, Nat.reduceAdd, Nat.reduceLeDiff, decide_true, List.all_cons, List.all_nil, one, Bool.and_true, Bool.true_and, Bool.and_self, splice, List.set_cons_zero, List.set_cons_succ, List.getElem?_cons_zero, List.getElem?_cons_succ, vc_int, vc_slice, vc_str, vc_bool, vc_int', vc_slice', vc_str', vc_bool', List.length_set, List.length_append, Nat.lt_irrefl, Nat.lt_add_one, and_self, true_and, and_true, lenV, cellsOfSlice, Nat.le_refl, if_true , e0, e2, e6, hp, rem8, sliceOf, quo8 _ (by omega : bs.length < 9223372036854775808), hq2, hidx, Int.toNat_natCast, Nat.mul_one, Nat.zero_add, hg,
        shrN n k (by omega), and1 _ hn2, testBit_mod, wrap_bit, sub7 _ (by omega : bs.length % 8 ≤ 7), shl8 _ _ hs7, or8 _ _ hxs hb8, u8s_length, hj, u8s_set, hget_set_ne hqp, hw1]
      refine hq _ (some q) ⟨d2.set (bs.length / 8) (x ||| (n.testBit k).toNat <<< (7 - bs.length % 8)), ⟨?_, fun h => by simp at h, fun q' hq' => ?_⟩, hb2.put _ rfl hx, ?_⟩ ?_ (fun q' hq' => hfr q' hq')
      · rw [hget_set_self (by simpa using hpl)]
        simp [sliceOf]
      · injection hq' with hq'
        subst hq'
        refine ⟨hqp, ?_⟩
        rw [hget_set_ne (Ne.symm hqp), hget_set_self hql]
      · simp; omega
      · refine ((hf.set _ ?_).set _ (by simp))
        rcases hfr q rfl with h1 | h1
        · left; simp [h1]
        · right; exact h1

/-- A field's bits. -/
theorem put_spec {H : Heap} {p : Nat} {o : Option Nat} {bs : List Bool} {err : Int} {n w : Nat} (hn : n < 18446744073709551616) (hw : w ≤ 64) (hlen : bs.length + w < 600000) (h : WSt H p o bs err) (K : Value → Heap → Prop)
    (hk : ∀ H' o', WSt H' p o' (bs ++ bitsOf w n) err → Frm (p :: o.toList) H H' → (∀ q, o' = some q → o = some q ∨ H.length ≤ q) → K (.tuple #[]) H') :
    Op1 (AC tbl 56 [.pointer (some ⟨p, 0, none⟩), .int .i64 (w : Int), .int .u64 (n : Int)] H) K := by
  apply AC_wp (F := F56) rfl (by simp [F56]) (.inl rfl)
  have hw0 : IntKind.i64.wrap ((w : Int) - 1) = (w : Int) - 1 := wrap_i64 (by omega) (by omega)
  show AW tbl F56.body _ H (Ends [] false _ K)
  unfold F56
  rw [RW_seq]
  simp only [↓RW_reg, ↓RO_op, ↓AO_nil, CReg_ap, COps_ap, Then_normal, argsE, dval, aop, ev, lk_put, lk_none, lk_cons, lk_nil, keep_nil, keep_cons, Op1_some, Option.map_some, Option.bind_some, reduceIte, Nat.reduceEqDiff, binV_sub, hw0, Nat.zero_add, Nat.reduceAdd, CSeq_ap, ↓AW_block]
  apply AW_loop_inv (fun j e H1 => e = [(0, .pointer (some ⟨p, 0, none⟩)), (2, .int .u64 n), (6, .int .i64 ((j : Int) - 1))] ∧ j ≤ w ∧ ∃ bs1 o1, WSt H1 p o1 bs1 err ∧ bs1 ++ bitsOf j n = bs ++ bitsOf w n ∧ Frm (p :: o.toList) H H1 ∧ (∀ q, o1 = some q → o = some q ∨ H.length ≤ q)) _ w
  · exact ⟨rfl, Nat.le_refl _, bs, o, h, rfl, Frm.refl _ _, fun q hq => .inl hq⟩
  · rintro j e H1 ⟨rfl, hjw, bs1, o1, h1, h2, h3, h4⟩
    have hl : bs1.length + j = bs.length + w := by
      have := congrArg List.length h2
      simpa [bitsOf_length] using this
    cases j with
    | zero =>
      have g0 : ¬ (0 : Int) ≤ ((0 : Nat) : Int) - 1 := by omega
      simp only [↓RW_seq, ↓AW_ret, ↓AW_skip, ↓AW_exit, ↓AW_block, ↓RW_cond, ↓RW_reg, ↓RW_regd, ↓RO_op, ↓RO_t, ↓RO_f, ↓RO_nt, ↓RO_nf, ↓AO_nil, ↓RD_op, ↓RD_t, ↓RD_f, ↓RD_nt, ↓RD_fe, ↓RD_nte, ↓RD_nf, ↓AOD_nil, CDops_eff, CDops_no, CDops_1, CDops_2, Again_nil, Again_cons, Same1_int, Same1_bool, Same1_str, Same1_ptr, Same1_slice, Same1_nil, CSeq_ap, CReg_ap, COps_ap, Then_normal, Then_ret, Then_exit, InBlock_normal, InBlock_ret, InBlock_self, InBlock_exit, Ends_ret, Ends_normal, ares, tup, finO_some, fin_same, fin_false, argsE, dval, aop, ev, evs, evo, evp, fillL, addrOf, intOf?, lk_put, lk_none, lk_cons, lk_nil, keep_nil, keep_cons, Op1_some, Option.map_some, Option.bind_some, reduceIte, Nat.reduceEqDiff, binV_lss, binV_leq, binV_gtr, binV_geq, binV_eql, binV_neq, binV_add, binV_sub, binV_mul, un_not, CondA_false, CondA_true, Bool.not_true, Bool.not_false, reduceCtorEq, decide_true, decide_false, Nat.add_zero, Nat.zero_add, Nat.reduceAdd, Nat.reduceMul , g0]
      refine hk _ o1 ?_ h3 h4
      rw [← h2]; simpa [bitsOf] using h1
    | succ j =>
      have g0 : (0 : Int) ≤ ((j + 1 : Nat) : Int) - 1 := by omega
      rw [RW_seq, RW_seq]
      simp only [↓RW_reg, ↓RO_op, ↓AO_nil, ↓RW_cond, ↓AW_skip, CondA_true, CReg_ap, COps_ap, Then_normal, dval, aop, ev, lk_put, lk_none, lk_cons, lk_nil, keep_nil, keep_cons, Op1_some, Option.map_some, Option.bind_some, reduceIte, Nat.reduceEqDiff, binV_geq, CSeq_ap, g0, decide_true]
      rw [show ((j + 1 : Nat) : Int) - 1 = (j : Int) by omega]
      rw [RW_seq, AW_block]
      refine put_one (p := p) (o := o1) (bs := bs1) (err := err) (n := n) (k := j) hn (by omega) (by omega) h1 _ rfl rfl rfl ?_ rfl
      intro H2 o2 k1 k2 k3
      simp only [InBlock_normal, Then_normal, CSeq_ap, ↓RW_reg, ↓RO_op, ↓AO_nil, CReg_ap, COps_ap, dval, aop, ev, lk_put, lk_none, lk_cons, lk_nil, keep_nil, keep_cons, Op1_some, Option.map_some, Option.bind_some, reduceIte, Nat.reduceEqDiff, binV_sub]
      rw [wrap_i64 (by omega) (by omega)]
      refine ⟨j, by omega, rfl, by omega, bs1 ++ [n.testBit j], o2, k1, ?_, h3.trans k2 ?_, fun q hq => ?_⟩
      · rw [← h2]; simp [bitsOf]
      · intro i hi
        rcases List.mem_cons.1 hi with rfl | hi
        · left; simp
        · rcases h4 i (by simpa [Option.mem_toList] using hi) with h5 | h5
          · left; simp [h5]
          · right; exact h5
      · rcases k3 q hq with h5 | h5
        · exact h4 q h5
        · right; have := h3.1; omega

end Go.Proofs.Ytlbhbjaimcinbaa.AI
