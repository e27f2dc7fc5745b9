/- How a function is reckoned through, as rewriting rules: each goes one step, and none looks behind what is next. -/
import Derived.Test.YtlbhbjaimcinbaaAI20
namespace Go.Proofs.Ytlbhbjaimcinbaa.AI
open Go

section
variable {tbl : Nat → Option AFn} {e e' : Env} {H H' : Heap} {Q : AExit → Env → Heap → Prop} {R : Env → Heap → Prop} {K : Value → Heap → Prop}

/-! What is next is laid behind names that the rules open one at a time. -/
def CSeq (tbl : Nat → Option AFn) (b : ACode) (Q : AExit → Env → Heap → Prop) : Env → Heap → Prop := fun e H => AW tbl b e H Q
theorem CSeq_ap {b : ACode} : CSeq tbl b Q e H = AW tbl b e H Q := rfl
theorem RW_seq {a b : ACode} : AW tbl (.seq a b) e H Q = AW tbl a e H (Then (CSeq tbl b Q) Q) := AW_seq
theorem RW_loop {a : ACode} : AW tbl (.loop a) e H Q = AW tbl a e H (Then (CSeq tbl (.loop a) Q) Q) := AW_loop
def CReg (live : List Nat) (Q : AExit → Env → Heap → Prop) : Env → Heap → Prop := fun e H => Q .normal (keep e live) H
theorem CReg_ap {live : List Nat} : CReg live Q e H = Q .normal (keep e live) H := rfl
theorem RW_reg {ops : List AOper} {live : List Nat} : AW tbl (.reg ops live) e H Q = AO tbl ops e H (CReg live Q) := AW_reg
theorem RW_regd {ops : List DOper} {live : List Nat} : AW tbl (.regd ops live) e H Q = AOD tbl ops [] e H (CReg live Q) := AW_regd
def COps (tbl : Nat → Option AFn) (d : Option Nat) (r : List AOper) (e : Env) (R : Env → Heap → Prop) : Value → Heap → Prop := fun v H => AO tbl r (putE e d v) H R
theorem COps_ap {d : Option Nat} {r : List AOper} {v : Value} : COps tbl d r e R v H = AO tbl r (putE e d v) H R := rfl
theorem RO_op {d : Option Nat} {op : AOp} {r : List AOper} : AO tbl (⟨d, none, op⟩ :: r) e H R = Op1 (dval (AC tbl) op e H) (COps tbl d r e R) := AO_op
theorem RO_t {d : Option Nat} {t : Nat} {op : AOp} {r : List AOper} (h : lk e t = some (.bool true)) : AO tbl (⟨d, some (t, true), op⟩ :: r) e H R = Op1 (dval (AC tbl) op e H) (COps tbl d r e R) := by rw [AO_guard h, if_pos rfl]; exact AO_op
theorem RO_f {d : Option Nat} {t : Nat} {op : AOp} {r : List AOper} (h : lk e t = some (.bool false)) : AO tbl (⟨d, some (t, true), op⟩ :: r) e H R = AO tbl r (putE e d undef) H R := by rw [AO_guard h, if_neg (by decide)]
theorem RO_nt {d : Option Nat} {t : Nat} {op : AOp} {r : List AOper} (h : lk e t = some (.bool true)) : AO tbl (⟨d, some (t, false), op⟩ :: r) e H R = AO tbl r (putE e d undef) H R := by rw [AO_guard h, if_neg (by decide)]
theorem RO_nf {d : Option Nat} {t : Nat} {op : AOp} {r : List AOper} (h : lk e t = some (.bool false)) : AO tbl (⟨d, some (t, false), op⟩ :: r) e H R = Op1 (dval (AC tbl) op e H) (COps tbl d r e R) := by rw [AO_guard h, if_pos rfl]; exact AO_op

/-- What follows an operation whose order is open. -/
def CDops (tbl : Nat → Option AFn) (d : Option Nat) (op : AOp) (eff : Bool) (back : Nat) (r : List DOper) (hist : List Heap) (e : Env) (H0 : Heap) (R : Env → Heap → Prop) : Value → Heap → Prop :=
  fun v H => okBack ⟨⟨d, none, op⟩, eff, back⟩ hist e H0 = true ∧ AOD tbl r (if eff then H0 :: hist else hist) (putE e d v) H R
theorem CDops_eff {d : Option Nat} {op : AOp} {r : List DOper} {hist : List Heap} {H0 : Heap} {v : Value} : CDops tbl d op true 0 r hist e H0 R v H = AOD tbl r (H0 :: hist) (putE e d v) H R := by
  simp [CDops, okBack]
theorem CDops_no {d : Option Nat} {op : AOp} {r : List DOper} {hist : List Heap} {H0 : Heap} {v : Value} : CDops tbl d op false 0 r hist e H0 R v H = AOD tbl r hist (putE e d v) H R := by
  simp [CDops, okBack]
theorem CDops_back {d : Option Nat} {op : AOp} {n : Nat} {r : List DOper} {hist : List Heap} {H0 : Heap} {v : Value} : CDops tbl d op false (n + 1) r hist e H0 R v H =
    ((match aop op e H0 with | some (v, _) => again op e v (hist.take (n + 1)) | none => false) = true ∧ AOD tbl r hist (putE e d v) H R) := by
  simp [CDops, okBack, want]
  intro _
  cases aop op e H0 <;> rfl
theorem RD_op {d : Option Nat} {op : AOp} {eff : Bool} {back : Nat} {r : List DOper} {hist : List Heap} : AOD tbl (⟨⟨d, none, op⟩, eff, back⟩ :: r) hist e H R = Op1 (dval (AC tbl) op e H) (CDops tbl d op eff back r hist e H R) := AOD_op
theorem RD_t {d : Option Nat} {t : Nat} {op : AOp} {eff : Bool} {back : Nat} {r : List DOper} {hist : List Heap} (h : lk e t = some (.bool true)) : AOD tbl (⟨⟨d, some (t, true), op⟩, eff, back⟩ :: r) hist e H R = Op1 (dval (AC tbl) op e H) (CDops tbl d op eff back r hist e H R) := by rw [AOD_guard h, if_pos rfl]; rfl
theorem RD_f {d : Option Nat} {t : Nat} {op : AOp} {back : Nat} {r : List DOper} {hist : List Heap} (h : lk e t = some (.bool false)) : AOD tbl (⟨⟨d, some (t, true), op⟩, false, back⟩ :: r) hist e H R = AOD tbl r hist (putE e d undef) H R := by rw [AOD_guard h, if_neg (by decide)]; rfl
theorem RD_nt {d : Option Nat} {t : Nat} {op : AOp} {back : Nat} {r : List DOper} {hist : List Heap} (h : lk e t = some (.bool true)) : AOD tbl (⟨⟨d, some (t, false), op⟩, false, back⟩ :: r) hist e H R = AOD tbl r hist (putE e d undef) H R := by rw [AOD_guard h, if_neg (by decide)]; rfl
theorem RD_fe {d : Option Nat} {t : Nat} {op : AOp} {back : Nat} {r : List DOper} {hist : List Heap} (h : lk e t = some (.bool false)) : AOD tbl (⟨⟨d, some (t, true), op⟩, true, back⟩ :: r) hist e H R = AOD tbl r (H :: hist) (putE e d undef) H R := by rw [AOD_guard h, if_neg (by decide)]; rfl
theorem RD_nte {d : Option Nat} {t : Nat} {op : AOp} {back : Nat} {r : List DOper} {hist : List Heap} (h : lk e t = some (.bool true)) : AOD tbl (⟨⟨d, some (t, false), op⟩, true, back⟩ :: r) hist e H R = AOD tbl r (H :: hist) (putE e d undef) H R := by rw [AOD_guard h, if_neg (by decide)]; rfl
theorem RD_nf {d : Option Nat} {t : Nat} {op : AOp} {eff : Bool} {back : Nat} {r : List DOper} {hist : List Heap} (h : lk e t = some (.bool false)) : AOD tbl (⟨⟨d, some (t, false), op⟩, eff, back⟩ :: r) hist e H R = Op1 (dval (AC tbl) op e H) (CDops tbl d op eff back r hist e H R) := by rw [AOD_guard h, if_pos rfl]; rfl

/-- A choice by a value. -/
def CondA (tbl : Nat → Option AFn) (o : Option Value) (a b : ACode) (e : Env) (H : Heap) (Q : AExit → Env → Heap → Prop) : Prop := match o with
  | some (.bool true) => AW tbl a e H Q
  | some (.bool false) => AW tbl b e H Q
  | _ => False
theorem CondA_true {a b : ACode} : CondA tbl (some (.bool true)) a b e H Q = AW tbl a e H Q := rfl
theorem CondA_false {a b : ACode} : CondA tbl (some (.bool false)) a b e H Q = AW tbl b e H Q := rfl
theorem CondA_of {x : Bool} {a b : ACode} (h1 : x = true → AW tbl a e H Q) (h2 : x = false → AW tbl b e H Q) : CondA tbl (some (.bool x)) a b e H Q := by
  cases x
  · exact h2 rfl
  · exact h1 rfl
theorem CondA_dec {p : Prop} {hp : Decidable p} {a b : ACode} (h1 : p → AW tbl a e H Q) (h2 : ¬ p → AW tbl b e H Q) : CondA tbl (some (.bool (@decide p hp))) a b e H Q := by
  by_cases h : p
  · rw [decide_eq_true h]; exact h1 h
  · rw [decide_eq_false h]; exact h2 h
theorem RW_cond {c : Arg} {a b : ACode} : AW tbl (.cond c a b) e H Q = CondA tbl (ev e c) a b e H Q := by
  rw [AW_cond]
  apply propext; constructor
  · rintro (⟨h1, h2⟩ | ⟨h1, h2⟩) <;> rw [h1] <;> exact h2
  · intro h
    unfold CondA at h
    split at h
    · exact .inl ⟨‹_›, h⟩
    · exact .inr ⟨‹_›, h⟩
    · exact h.elim

theorem lk_put {d n : Nat} {v : Value} : lk (putE e (some d) v) n = if d = n then some v else lk e n := rfl
theorem lk_none {n : Nat} {v : Value} : lk (putE e none v) n = lk e n := rfl
theorem lk_cons {d n : Nat} {v : Value} {r : Env} : lk ((d, v) :: r) n = if d = n then some v else lk r n := rfl
theorem lk_nil {n : Nat} : lk [] n = none := rfl
theorem keep_nil : keep e [] = [] := rfl
theorem keep_cons {t : Nat} {r : List Nat} : keep e (t :: r) = match lk e t with | some v => (t, v) :: keep e r | none => keep e r := rfl

/-- How a function ends. -/
def finO (trunc : Bool) (n : Nat) (o : Option (List Value)) (H : Heap) : Option (Value × Heap) := o.map fun vs => fin trunc n (tup vs) H
theorem finO_some {t : Bool} {n : Nat} {vs : List Value} : finO t n (some vs) H = some (fin t n (tup vs) H) := rfl
def Ends (rs : List ARes) (t : Bool) (n : Nat) (K : Value → Heap → Prop) : AExit → Env → Heap → Prop
  | .exit _, _, _ => False
  | _, e, H => Op1 (finO t n (ares e H rs) H) K
theorem Ends_ret {rs : List ARes} {t : Bool} {n : Nat} : Ends rs t n K .ret e H = Op1 (finO t n (ares e H rs) H) K := rfl
theorem Ends_normal {rs : List ARes} {t : Bool} {n : Nat} : Ends rs t n K .normal e H = Op1 (finO t n (ares e H rs) H) K := rfl

/-- A function, through its body. -/
theorem AC_wp {f : Nat} {vs : List Value} {F : AFn} (hF : tbl f = some F) (hl : vs.length ≤ F.ntmps) (hi : F.iso = false ∨ H = [])
    (h : AW tbl F.body (argsE 0 vs) H (Ends F.results F.trunc H.length K)) : Op1 (AC tbl f vs H) K := by
  obtain ⟨n, x, e1, H1, h1, h2⟩ := h
  have : ∃ r, (ares e1 H1 F.results).map (fun vs => fin F.trunc H.length (tup vs) H1) = some r ∧ K r.1 r.2 ∧ ∀ i, x ≠ .exit i := by
    cases x with
    | exit i => exact h2.elim
    | normal => obtain ⟨v, H2, hv, hk⟩ := h2; unfold finO at hv; exact ⟨(v, H2), hv, hk, fun i => by simp⟩
    | ret => obtain ⟨v, H2, hv, hk⟩ := h2; unfold finO at hv; exact ⟨(v, H2), hv, hk, fun i => by simp⟩
  obtain ⟨⟨v, H2⟩, hr, hk, hx⟩ := this
  obtain ⟨rvs, hrvs, hfin⟩ := Option.map_eq_some_iff.1 hr
  exact ⟨v, H2, AC_of hF hl hi ⟨n, x, e1, H1, h1, hx, rvs, hrvs, hfin⟩, hk⟩

theorem AC_eq {f : Nat} {vs : List Value} {v : Value} (h : Op1 (AC tbl f vs H) fun v1 H1 => v1 = v ∧ H1 = H') : AC tbl f vs H = some (v, H') := by
  obtain ⟨v1, H1, h1, rfl, rfl⟩ := h
  exact h1
theorem Op1_mono {r : Option (Value × Heap)} {K' : Value → Heap → Prop} (h : Op1 r K) (hk : ∀ v H, K v H → K' v H) : Op1 r K' := by
  obtain ⟨v, H1, h1, h2⟩ := h
  exact ⟨v, H1, h1, hk _ _ h2⟩

/-- At the next round's start. -/
def Inv (I : Nat → Env → Heap → Prop) (k : Nat) : Env → Heap → Prop := fun e H => ∃ k', k' < k ∧ I k' e H
/-- A loop, by what holds at each round's start. -/
theorem AW_loop_inv {a : ACode} (I : Nat → Env → Heap → Prop) (step : ∀ k e H, I k e H → AW tbl a e H (Then (Inv I k) Q)) : ∀ k e H, I k e H → AW tbl (.loop a) e H Q := by
  intro k
  induction k using Nat.strongRecOn with
  | ind k ih =>
    intro e H hI
    rw [AW_loop]
    refine (step k e H hI).mono fun x e H hx => ?_
    cases x with
    | normal => obtain ⟨k', hk, hI'⟩ := hx; exact ih k' hk e H hI'
    | ret => exact hx
    | exit i => exact hx
end

/-! ## Operations -/
section
variable {c : CallF} {e : Env} {H : Heap}
theorem dval_call {f : Nat} {args : List Arg} : dval c (.call f args) e H = (evs e args).bind fun vs => c f vs H := rfl
theorem dval_callv {f : Arg} {args : List Arg} : dval c (.callv f args) e H = match ev e f with
    | some (.func (.func i) first captured) => (evs e args).bind fun vs => c i (first.toList ++ vs ++ captured.toList) H
    | _ => none := rfl

theorem binV_add (k : IntKind) (a b : Int) : binV .add (.int k a) (.int k b) = some (.int k (k.wrap (a + b))) := by simp [binV]; rfl
theorem binV_sub (k : IntKind) (a b : Int) : binV .sub (.int k a) (.int k b) = some (.int k (k.wrap (a - b))) := by simp [binV]; rfl
theorem binV_mul (k : IntKind) (a b : Int) : binV .mul (.int k a) (.int k b) = some (.int k (k.wrap (a * b))) := by simp [binV]; rfl
theorem binV_eql (k : IntKind) (a b : Int) : binV .eql (.int k a) (.int k b) = some (.bool (decide (a = b))) := by simp [binV]; show some (Value.bool (a == b)) = _; rfl
theorem binV_neq (k : IntKind) (a b : Int) : binV .neq (.int k a) (.int k b) = some (.bool (decide (a ≠ b))) := by
  simp only [binV, if_true]; show some (Value.bool (a != b)) = _; rw [bne]; simp [BEq.beq]
theorem binV_lss (k : IntKind) (a b : Int) : binV .lss (.int k a) (.int k b) = some (.bool (decide (a < b))) := by simp [binV]; rfl
theorem binV_leq (k : IntKind) (a b : Int) : binV .leq (.int k a) (.int k b) = some (.bool (decide (a ≤ b))) := by simp [binV]; rfl
theorem binV_gtr (k : IntKind) (a b : Int) : binV .gtr (.int k a) (.int k b) = some (.bool (decide (b < a))) := by simp [binV]; rfl
theorem binV_geq (k : IntKind) (a b : Int) : binV .geq (.int k a) (.int k b) = some (.bool (decide (b ≤ a))) := by simp [binV]; rfl
theorem binV_shl (k k' : IntKind) (a b : Int) (h : ¬ b < 0) : binV .shl (.int k a) (.int k' b) = some (.int k (k.wrap (a * 2 ^ (min b.toNat k.bits)))) := by
  simp only [binV, Op.shift, if_neg h]; rfl
theorem binV_shr (k k' : IntKind) (a b : Int) (h : ¬ b < 0) : binV .shr (.int k a) (.int k' b) = some (.int k (a.fdiv (2 ^ (min b.toNat k.bits)))) := by
  simp only [binV, Op.shift, if_neg h]; rfl
theorem binV_quo (k : IntKind) (a b : Int) (h : ¬ b = 0) : binV .quo (.int k a) (.int k b) = some (.int k (k.wrap (a.tdiv b))) := by
  simp only [binV, Op.intDiv, if_neg h, if_true]; rfl
theorem binV_rem (k : IntKind) (a b : Int) (h : ¬ b = 0) : binV .rem (.int k a) (.int k b) = some (.int k (a.tmod b)) := by
  simp only [binV, Op.intDiv, if_neg h, if_true]; rfl
theorem binV_and (k : IntKind) (a b : Int) : binV .and (.int k a) (.int k b) = some (.int k (k.wrap (BitVec.ofInt k.bits a &&& BitVec.ofInt k.bits b).toNat)) := by simp [binV]; rfl
theorem binV_or (k : IntKind) (a b : Int) : binV .or (.int k a) (.int k b) = some (.int k (k.wrap (BitVec.ofInt k.bits a ||| BitVec.ofInt k.bits b).toNat)) := by simp [binV]; rfl
theorem un_not (b : Bool) : eval0 (Op.unary .not (.bool b)) = some (.bool !b) := rfl
theorem un_neg (k : IntKind) (n : Int) : eval0 (Op.unary .neg (.int k n)) = some (.int k (k.wrap (0 - n))) := rfl

theorem fin_false {n : Nat} {v : Value} : fin false n v H = (v, H) := by simp [fin]
theorem fin_same {t : Bool} {v : Value} : fin t H.length v H = (v, H) := by
  unfold fin
  split
  · simp
  · rfl
def WFH (H : Heap) : Prop := H.all (blkB H.length) = true
theorem fin_append {v : Value} {L : Heap} (hv : idsB 9 H.length v = true) (h : WFH H) : fin true H.length v (H ++ L) = (v, H) := by
  unfold fin
  rw [if_pos]
  · simp
  · simp only [List.take_left, hv, Bool.true_and]; exact h

theorem hload_last {cs : List Value} {rw' : Bool} {n : Option Nat} {o : Nat} : hload (H ++ [some ⟨rw', cs⟩]) n ⟨H.length, o, none⟩ = match n with
    | none => cs[o]?
    | some n => if o + n ≤ cs.length then some (.agg ((cs.drop o).take n).toArray) else none := by
  cases n <;> simp only [hload, hget_append_self, Option.bind_some]
theorem hstore_last {cs vs : List Value} {o : Nat} (h : (decide (o + vs.length ≤ cs.length) && vs.all one) = true) : hstore (H ++ [some ⟨true, cs⟩]) ⟨H.length, o, none⟩ vs = some (H ++ [some ⟨true, splice cs o vs⟩]) := by
  simp only [hstore, hget_append_self, Option.bind_some, Bool.true_and]
  rw [if_pos h]
  simp
end

/-! ## An operation that is carried out in elder memories as well -/
def Again (op : AOp) (e : Env) (l : List Heap) (r : Option (Value × Heap)) : Prop := (match r with | some (v, _) => again op e v l | none => false) = true
theorem CDops_again {tbl : Nat → Option AFn} {e : Env} {H H0 : Heap} {R : Env → Heap → Prop} {d : Option Nat} {op : AOp} {n : Nat} {r : List DOper} {hist : List Heap} {v : Value} : CDops tbl d op false (n + 1) r hist e H0 R v H =
    (Again op e (hist.take (n + 1)) (aop op e H0) ∧ AOD tbl r hist (putE e d v) H R) := CDops_back
theorem Again_nil {op : AOp} {e : Env} {v : Value} {H : Heap} : Again op e [] (some (v, H)) = True := by simp [Again, again]
def Same1 (v : Value) (r : Option (Value × Heap)) : Prop := (match r with | some (v', _) => sameV 9 v v' | none => false) = true
theorem Again_cons {op : AOp} {e : Env} {v : Value} {H G : Heap} {l : List Heap} : Again op e (G :: l) (some (v, H)) = (Same1 v (aop op e G) ∧ Again op e l (some (v, H))) := by
  simp [Again, again, Same1]
  intro _
  cases aop op e G <;> rfl
theorem Same1_int {k : IntKind} {n : Int} {H : Heap} : Same1 (.int k n) (some (.int k n, H)) = True := by simp [Same1, sameV]
theorem Same1_bool {b : Bool} {H : Heap} : Same1 (.bool b) (some (.bool b, H)) = True := by simp [Same1, sameV]
theorem Same1_str {s : ByteArray} {H : Heap} : Same1 (.string s) (some (.string s, H)) = True := by simp [Same1, sameV]
theorem Same1_ptr {a : Addr} {H : Heap} : Same1 (.pointer (some a)) (some (.pointer (some a), H)) = True := by simp [Same1, sameV]
theorem Same1_slice {a : Addr} {n z : Nat} {H : Heap} : Same1 (.slice (some a) n z) (some (.slice (some a) n z, H)) = True := by simp [Same1, sameV]
theorem Same1_nil {H : Heap} : Same1 (.slice none 0 0) (some (.slice none 0 0, H)) = True := by simp [Same1, sameV]
theorem take_one {G : Heap} {l : List Heap} : List.take (0 + 1) (G :: l) = [G] := by simp
theorem take_two {G G2 : Heap} {l : List Heap} : List.take (1 + 1) (G :: G2 :: l) = [G, G2] := by simp
theorem CDops_1 {tbl : Nat → Option AFn} {e : Env} {H H0 G : Heap} {R : Env → Heap → Prop} {d : Option Nat} {op : AOp} {r : List DOper} {hist : List Heap} {v : Value} : CDops tbl d op false 1 r (G :: hist) e H0 R v H =
    (Again op e [G] (aop op e H0) ∧ AOD tbl r (G :: hist) (putE e d v) H R) := by rw [CDops_again (n := 0), take_one]
theorem CDops_2 {tbl : Nat → Option AFn} {e : Env} {H H0 G G2 : Heap} {R : Env → Heap → Prop} {d : Option Nat} {op : AOp} {r : List DOper} {hist : List Heap} {v : Value} : CDops tbl d op false 2 r (G :: G2 :: hist) e H0 R v H =
    (Again op e [G, G2] (aop op e H0) ∧ AOD tbl r (G :: G2 :: hist) (putE e d v) H R) := by rw [CDops_again (n := 1), take_two]

end Go.Proofs.Ytlbhbjaimcinbaa.AI
