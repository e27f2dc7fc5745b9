/- What is proved on the way to BeaconEach, part 4: an interpreter of the code, its soundness, and what the functions answer. -/
import Derived.Calls
import Derived.Orders
import Derived.RowKit3
import Derived.KernelRfl
import Derived.WalkKit
import Derived.Laws.IdiomStrings
import Derived.Laws.StructEq
import Derived.LoopN
import Derived.Test.YtejcabdejoameaaBe3
/- How a function is reckoned through, as rewriting rules: each goes one step, and none looks behind what is next. -/
namespace Go.Proofs.Ytejcabdejoameaa.AI
open Go

section
variable {tbl : Nat → Option AFn} {e e' : Env} {H H' : Heap} {Q : AExit → Env → Heap → Prop} {R : Env → Heap → Prop} {K : Value → Heap → Prop}

/-! What is next is laid behind names that the rules open one at a time. -/
def CSeq (tbl : Nat → Option AFn) (b : ACode) (Q : AExit → Env → Heap → Prop) : Env → Heap → Prop := fun e H => AW tbl b e H Q
theorem ybk {b : ACode} : CSeq tbl b Q e H = AW tbl b e H Q := rfl
theorem yaa {a b : ACode} : AW tbl (.seq a b) e H Q = AW tbl a e H (Then (CSeq tbl b Q) Q) := AW_seq
theorem RW_loop {a : ACode} : AW tbl (.loop a) e H Q = AW tbl a e H (Then (CSeq tbl (.loop a) Q) Q) := AW_loop
def CReg (live : List Nat) (Q : AExit → Env → Heap → Prop) : Env → Heap → Prop := fun e H => Q .normal (keep e live) H
theorem ybl {live : List Nat} : CReg live Q e H = Q .normal (keep e live) H := rfl
theorem yag {ops : List AOper} {live : List Nat} : AW tbl (.reg ops live) e H Q = AO tbl ops e H (CReg live Q) := AW_reg
theorem yah {ops : List DOper} {live : List Nat} : AW tbl (.regd ops live) e H Q = AOD tbl ops [] e H (CReg live Q) := AW_regd
def COps (tbl : Nat → Option AFn) (d : Option Nat) (r : List AOper) (e : Env) (R : Env → Heap → Prop) : Value → Heap → Prop := fun v H => AO tbl r (putE e d v) H R
theorem ybm {d : Option Nat} {r : List AOper} {v : Value} : COps tbl d r e R v H = AO tbl r (putE e d v) H R := rfl
theorem yai {d : Option Nat} {op : AOp} {r : List AOper} : AO tbl (⟨d, none, op⟩ :: r) e H R = Op1 (dval (AC tbl) op e H) (COps tbl d r e R) := AO_op
theorem yaj {d : Option Nat} {t : Nat} {op : AOp} {r : List AOper} (h : lk e t = some (.bool true)) : AO tbl (⟨d, some (t, true), op⟩ :: r) e H R = Op1 (dval (AC tbl) op e H) (COps tbl d r e R) := by rw [AO_guard h, if_pos rfl]; exact AO_op
theorem yak {d : Option Nat} {t : Nat} {op : AOp} {r : List AOper} (h : lk e t = some (.bool false)) : AO tbl (⟨d, some (t, true), op⟩ :: r) e H R = AO tbl r (putE e d undef) H R := by rw [AO_guard h, if_neg (by decide)]
theorem yal {d : Option Nat} {t : Nat} {op : AOp} {r : List AOper} (h : lk e t = some (.bool true)) : AO tbl (⟨d, some (t, false), op⟩ :: r) e H R = AO tbl r (putE e d undef) H R := by rw [AO_guard h, if_neg (by decide)]
theorem yam {d : Option Nat} {t : Nat} {op : AOp} {r : List AOper} (h : lk e t = some (.bool false)) : AO tbl (⟨d, some (t, false), op⟩ :: r) e H R = Op1 (dval (AC tbl) op e H) (COps tbl d r e R) := by rw [AO_guard h, if_pos rfl]; exact AO_op

/-- What follows an operation whose order is open. -/
def CDops (tbl : Nat → Option AFn) (d : Option Nat) (op : AOp) (eff : Bool) (back : Nat) (r : List DOper) (hist : List Heap) (e : Env) (H0 : Heap) (R : Env → Heap → Prop) : Value → Heap → Prop :=
  fun v H => okBack ⟨⟨d, none, op⟩, eff, back⟩ hist e H0 = true ∧ AOD tbl r (if eff then H0 :: hist else hist) (putE e d v) H R
theorem yay {d : Option Nat} {op : AOp} {r : List DOper} {hist : List Heap} {H0 : Heap} {v : Value} : CDops tbl d op true 0 r hist e H0 R v H = AOD tbl r (H0 :: hist) (putE e d v) H R := by
  simp [CDops, okBack]
theorem yaz {d : Option Nat} {op : AOp} {r : List DOper} {hist : List Heap} {H0 : Heap} {v : Value} : CDops tbl d op false 0 r hist e H0 R v H = AOD tbl r hist (putE e d v) H R := by
  simp [CDops, okBack]
theorem CDops_back {d : Option Nat} {op : AOp} {n : Nat} {r : List DOper} {hist : List Heap} {H0 : Heap} {v : Value} : CDops tbl d op false (n + 1) r hist e H0 R v H =
    ((match aop op e H0 with | some (v, _) => again op e v (hist.take (n + 1)) | none => false) = true ∧ AOD tbl r hist (putE e d v) H R) := by
  simp [CDops, okBack, want]
  intro _
  cases aop op e H0 <;> rfl
theorem yap {d : Option Nat} {op : AOp} {eff : Bool} {back : Nat} {r : List DOper} {hist : List Heap} : AOD tbl (⟨⟨d, none, op⟩, eff, back⟩ :: r) hist e H R = Op1 (dval (AC tbl) op e H) (CDops tbl d op eff back r hist e H R) := AOD_op
theorem yaq {d : Option Nat} {t : Nat} {op : AOp} {eff : Bool} {back : Nat} {r : List DOper} {hist : List Heap} (h : lk e t = some (.bool true)) : AOD tbl (⟨⟨d, some (t, true), op⟩, eff, back⟩ :: r) hist e H R = Op1 (dval (AC tbl) op e H) (CDops tbl d op eff back r hist e H R) := by rw [AOD_guard h, if_pos rfl]; rfl
theorem yar {d : Option Nat} {t : Nat} {op : AOp} {back : Nat} {r : List DOper} {hist : List Heap} (h : lk e t = some (.bool false)) : AOD tbl (⟨⟨d, some (t, true), op⟩, false, back⟩ :: r) hist e H R = AOD tbl r hist (putE e d undef) H R := by rw [AOD_guard h, if_neg (by decide)]; rfl
theorem yas {d : Option Nat} {t : Nat} {op : AOp} {back : Nat} {r : List DOper} {hist : List Heap} (h : lk e t = some (.bool true)) : AOD tbl (⟨⟨d, some (t, false), op⟩, false, back⟩ :: r) hist e H R = AOD tbl r hist (putE e d undef) H R := by rw [AOD_guard h, if_neg (by decide)]; rfl
theorem yat {d : Option Nat} {t : Nat} {op : AOp} {back : Nat} {r : List DOper} {hist : List Heap} (h : lk e t = some (.bool false)) : AOD tbl (⟨⟨d, some (t, true), op⟩, true, back⟩ :: r) hist e H R = AOD tbl r (H :: hist) (putE e d undef) H R := by rw [AOD_guard h, if_neg (by decide)]; rfl
theorem yau {d : Option Nat} {t : Nat} {op : AOp} {back : Nat} {r : List DOper} {hist : List Heap} (h : lk e t = some (.bool true)) : AOD tbl (⟨⟨d, some (t, false), op⟩, true, back⟩ :: r) hist e H R = AOD tbl r (H :: hist) (putE e d undef) H R := by rw [AOD_guard h, if_neg (by decide)]; rfl
theorem yav {d : Option Nat} {t : Nat} {op : AOp} {eff : Bool} {back : Nat} {r : List DOper} {hist : List Heap} (h : lk e t = some (.bool false)) : AOD tbl (⟨⟨d, some (t, false), op⟩, eff, back⟩ :: r) hist e H R = Op1 (dval (AC tbl) op e H) (CDops tbl d op eff back r hist e H R) := by rw [AOD_guard h, if_pos rfl]; rfl

/-- A choice by a value. -/
def CondA (tbl : Nat → Option AFn) (o : Option Value) (a b : ACode) (e : Env) (H : Heap) (Q : AExit → Env → Heap → Prop) : Prop := match o with
  | some (.bool true) => AW tbl a e H Q
  | some (.bool false) => AW tbl b e H Q
  | _ => False
theorem ycr {a b : ACode} : CondA tbl (some (.bool true)) a b e H Q = AW tbl a e H Q := rfl
theorem ycq {a b : ACode} : CondA tbl (some (.bool false)) a b e H Q = AW tbl b e H Q := rfl
theorem CondA_of {x : Bool} {a b : ACode} (h1 : x = true → AW tbl a e H Q) (h2 : x = false → AW tbl b e H Q) : CondA tbl (some (.bool x)) a b e H Q := by
  cases x
  · exact h2 rfl
  · exact h1 rfl
theorem yeh {p : Prop} {hp : Decidable p} {a b : ACode} (h1 : p → AW tbl a e H Q) (h2 : ¬ p → AW tbl b e H Q) : CondA tbl (some (.bool (@decide p hp))) a b e H Q := by
  by_cases h : p
  · rw [decide_eq_true h]; exact h1 h
  · rw [decide_eq_false h]; exact h2 h
theorem yaf {c : Arg} {a b : ACode} : AW tbl (.cond c a b) e H Q = CondA tbl (ev e c) a b e H Q := by
  rw [AW_cond]
  apply propext; constructor
  · rintro (⟨h1, h2⟩ | ⟨h1, h2⟩) <;> rw [h1] <;> exact h2
  · intro h
    unfold CondA at h
    split at h
    · exact .inl ⟨‹_›, h⟩
    · exact .inr ⟨‹_›, h⟩
    · exact h.elim

theorem ybz {d n : Nat} {v : Value} : lk (putE e (some d) v) n = if d = n then some v else lk e n := rfl
theorem yca {n : Nat} {v : Value} : lk (putE e none v) n = lk e n := rfl
theorem ycb {d n : Nat} {v : Value} {r : Env} : lk ((d, v) :: r) n = if d = n then some v else lk r n := rfl
theorem ycc {n : Nat} : lk [] n = none := rfl
theorem ycd : keep e [] = [] := rfl
theorem yce {t : Nat} {r : List Nat} : keep e (t :: r) = match lk e t with | some v => (t, v) :: keep e r | none => keep e r := rfl

/-- How a function ends. -/
def finO (trunc : Bool) (n : Nat) (o : Option (List Value)) (H : Heap) : Option (Value × Heap) := o.map fun vs => fin trunc n (tup vs) H
theorem ybw {t : Bool} {n : Nat} {vs : List Value} : finO t n (some vs) H = some (fin t n (tup vs) H) := rfl
def Ends (rs : List ARes) (t : Bool) (n : Nat) (K : Value → Heap → Prop) : AExit → Env → Heap → Prop
  | .exit _, _, _ => False
  | _, e, H => Op1 (finO t n (ares e H rs) H) K
theorem ybu {rs : List ARes} {t : Bool} {n : Nat} : Ends rs t n K .ret e H = Op1 (finO t n (ares e H rs) H) K := rfl
theorem ybv {rs : List ARes} {t : Bool} {n : Nat} : Ends rs t n K .normal e H = Op1 (finO t n (ares e H rs) H) K := rfl

/-- A function, through its body. -/
theorem AC_wp {f : Nat} {vs : List Value} {F : AFn} (hF : tbl f = some F) (hl : vs.length ≤ F.ntmps) (hi : F.iso = false ∨ H = [])
    (h : AW tbl F.body (argsE 0 vs) H (Ends F.results F.trunc H.length K)) : Op1 (AC tbl f vs H) K := by
  obtain ⟨n, x, e1, H1, h1, h2⟩ := h
  have : ∃ r, (ares e1 H1 F.results).map (fun vs => fin F.trunc H.length (tup vs) H1) = some r ∧ K r.1 r.2 ∧ ∀ i, x ≠ .exit i := by
    cases x with
    | exit i => exact h2.elim
    | normal => obtain ⟨v, H2, hv, hk⟩ := h2; unfold finO at hv; exact ⟨(v, H2), hv, hk, fun i => by simp⟩
    | ret => obtain ⟨v, H2, hv, hk⟩ := h2; unfold finO at hv; exact ⟨(v, H2), hv, hk, fun i => by simp⟩
  obtain ⟨⟨v, H2⟩, hr, hk, hx⟩ := this
  obtain ⟨rvs, hrvs, hfin⟩ := Option.map_eq_some_iff.1 hr
  exact ⟨v, H2, AC_of hF hl hi ⟨n, x, e1, H1, h1, hx, rvs, hrvs, hfin⟩, hk⟩

theorem AC_eq {f : Nat} {vs : List Value} {v : Value} (h : Op1 (AC tbl f vs H) fun v1 H1 => v1 = v ∧ H1 = H') : AC tbl f vs H = some (v, H') := by
  obtain ⟨v1, H1, h1, rfl, rfl⟩ := h
  exact h1
theorem Op1_mono {r : Option (Value × Heap)} {K' : Value → Heap → Prop} (h : Op1 r K) (hk : ∀ v H, K v H → K' v H) : Op1 r K' := by
  obtain ⟨v, H1, h1, h2⟩ := h
  exact ⟨v, H1, h1, hk _ _ h2⟩

/-- At the next round's start. -/
def Inv (I : Nat → Env → Heap → Prop) (k : Nat) : Env → Heap → Prop := fun e H => ∃ k', k' < k ∧ I k' e H
/-- A loop, by what holds at each round's start. -/
theorem AW_loop_inv {a : ACode} (I : Nat → Env → Heap → Prop) (step : ∀ k e H, I k e H → AW tbl a e H (Then (Inv I k) Q)) : ∀ k e H, I k e H → AW tbl (.loop a) e H Q := by
  intro k
  induction k using Nat.strongRecOn with
  | ind k ih =>
    intro e H hI
    rw [AW_loop]
    refine (step k e H hI).mono fun x e H hx => ?_
    cases x with
    | normal => obtain ⟨k', hk, hI'⟩ := hx; exact ih k' hk e H hI'
    | ret => exact hx
    | exit i => exact hx
end

/-! ## Operations -/
section
variable {c : CallF} {e : Env} {H : Heap}
theorem dval_call {f : Nat} {args : List Arg} : dval c (.call f args) e H = (evs e args).bind fun vs => c f vs H := rfl
theorem dval_callv {f : Arg} {args : List Arg} : dval c (.callv f args) e H = match ev e f with
    | some (.func (.func i) first captured) => (evs e args).bind fun vs => c i (first.toList ++ vs ++ captured.toList) H
    | _ => none := rfl

theorem ycm (k : IntKind) (a b : Int) : binV .add (.int k a) (.int k b) = some (.int k (k.wrap (a + b))) := by simp [binV]; rfl
theorem ycn (k : IntKind) (a b : Int) : binV .sub (.int k a) (.int k b) = some (.int k (k.wrap (a - b))) := by simp [binV]; rfl
theorem yco (k : IntKind) (a b : Int) : binV .mul (.int k a) (.int k b) = some (.int k (k.wrap (a * b))) := by simp [binV]; rfl
theorem yck (k : IntKind) (a b : Int) : binV .eql (.int k a) (.int k b) = some (.bool (decide (a = b))) := by simp [binV]; show some (Value.bool (a == b)) = _; rfl
theorem ycl (k : IntKind) (a b : Int) : binV .neq (.int k a) (.int k b) = some (.bool (decide (a ≠ b))) := by
  simp only [binV, if_true]; show some (Value.bool (a != b)) = _; rw [bne]; simp [BEq.beq]
theorem ycg (k : IntKind) (a b : Int) : binV .lss (.int k a) (.int k b) = some (.bool (decide (a < b))) := by simp [binV]; rfl
theorem ych (k : IntKind) (a b : Int) : binV .leq (.int k a) (.int k b) = some (.bool (decide (a ≤ b))) := by simp [binV]; rfl
theorem yci (k : IntKind) (a b : Int) : binV .gtr (.int k a) (.int k b) = some (.bool (decide (b < a))) := by simp [binV]; rfl
theorem ycj (k : IntKind) (a b : Int) : binV .geq (.int k a) (.int k b) = some (.bool (decide (b ≤ a))) := by simp [binV]; rfl
theorem binV_shl (k k' : IntKind) (a b : Int) (h : ¬ b < 0) : binV .shl (.int k a) (.int k' b) = some (.int k (k.wrap (a * 2 ^ (min b.toNat k.bits)))) := by
  simp only [binV, Op.shift, if_neg h]; rfl
theorem binV_shr (k k' : IntKind) (a b : Int) (h : ¬ b < 0) : binV .shr (.int k a) (.int k' b) = some (.int k (a.fdiv (2 ^ (min b.toNat k.bits)))) := by
  simp only [binV, Op.shift, if_neg h]; rfl
theorem binV_quo (k : IntKind) (a b : Int) (h : ¬ b = 0) : binV .quo (.int k a) (.int k b) = some (.int k (k.wrap (a.tdiv b))) := by
  simp only [binV, Op.intDiv, if_neg h, if_true]; rfl
theorem binV_rem (k : IntKind) (a b : Int) (h : ¬ b = 0) : binV .rem (.int k a) (.int k b) = some (.int k (a.tmod b)) := by
  simp only [binV, Op.intDiv, if_neg h, if_true]; rfl
theorem binV_and (k : IntKind) (a b : Int) : binV .and (.int k a) (.int k b) = some (.int k (k.wrap (BitVec.ofInt k.bits a &&& BitVec.ofInt k.bits b).toNat)) := by simp [binV]; rfl
theorem binV_or (k : IntKind) (a b : Int) : binV .or (.int k a) (.int k b) = some (.int k (k.wrap (BitVec.ofInt k.bits a ||| BitVec.ofInt k.bits b).toNat)) := by simp [binV]; rfl
theorem ycp (b : Bool) : eval0 (Op.unary .not (.bool b)) = some (.bool !b) := rfl
theorem un_neg (k : IntKind) (n : Int) : eval0 (Op.unary .neg (.int k n)) = some (.int k (k.wrap (0 - n))) := rfl

theorem yby {n : Nat} {v : Value} : fin false n v H = (v, H) := by simp [fin]
theorem ybx {t : Bool} {v : Value} : fin t H.length v H = (v, H) := by
  unfold fin
  split
  · simp
  · rfl
def WFH (H : Heap) : Prop := H.all (blkB H.length) = true
theorem fin_append {v : Value} {L : Heap} (hv : idsB 9 H.length v = true) (h : WFH H) : fin true H.length v (H ++ L) = (v, H) := by
  unfold fin
  rw [if_pos]
  · simp
  · simp only [List.take_left, hv, zaw]; exact h

theorem hload_last {cs : List Value} {rw' : Bool} {n : Option Nat} {o : Nat} : hload (H ++ [some ⟨rw', cs⟩]) n ⟨H.length, o, none⟩ = match n with
    | none => cs[o]?
    | some n => if o + n ≤ cs.length then some (.agg ((cs.drop o).take n).toArray) else none := by
  cases n <;> simp only [hload, ydu, zag]
theorem hstore_last {cs vs : List Value} {o : Nat} (h : (decide (o + vs.length ≤ cs.length) && vs.all one) = true) : hstore (H ++ [some ⟨true, cs⟩]) ⟨H.length, o, none⟩ vs = some (H ++ [some ⟨true, splice cs o vs⟩]) := by
  simp only [hstore, ydu, zag, zaw]
  rw [if_pos h]
  simp
end

/-! ## An operation that is carried out in elder memories as well -/
def Again (op : AOp) (e : Env) (l : List Heap) (r : Option (Value × Heap)) : Prop := (match r with | some (v, _) => again op e v l | none => false) = true
theorem CDops_again {tbl : Nat → Option AFn} {e : Env} {H H0 : Heap} {R : Env → Heap → Prop} {d : Option Nat} {op : AOp} {n : Nat} {r : List DOper} {hist : List Heap} {v : Value} : CDops tbl d op false (n + 1) r hist e H0 R v H =
    (Again op e (hist.take (n + 1)) (aop op e H0) ∧ AOD tbl r hist (putE e d v) H R) := CDops_back
theorem ybc {op : AOp} {e : Env} {v : Value} {H : Heap} : Again op e [] (some (v, H)) = True := by simp [Again, again]
def Same1 (v : Value) (r : Option (Value × Heap)) : Prop := (match r with | some (v', _) => sameV 9 v v' | none => false) = true
theorem ybd {op : AOp} {e : Env} {v : Value} {H G : Heap} {l : List Heap} : Again op e (G :: l) (some (v, H)) = (Same1 v (aop op e G) ∧ Again op e l (some (v, H))) := by
  simp [Again, again, Same1]
  intro _
  cases aop op e G <;> rfl
theorem ybe {k : IntKind} {n : Int} {H : Heap} : Same1 (.int k n) (some (.int k n, H)) = True := by simp [Same1, sameV]
theorem ybf {b : Bool} {H : Heap} : Same1 (.bool b) (some (.bool b, H)) = True := by simp [Same1, sameV]
theorem ybg {s : ByteArray} {H : Heap} : Same1 (.string s) (some (.string s, H)) = True := by simp [Same1, sameV]
theorem ybh {a : Addr} {H : Heap} : Same1 (.pointer (some a)) (some (.pointer (some a), H)) = True := by simp [Same1, sameV]
theorem ybi {a : Addr} {n z : Nat} {H : Heap} : Same1 (.slice (some a) n z) (some (.slice (some a) n z, H)) = True := by simp [Same1, sameV]
theorem ybj {H : Heap} : Same1 (.slice none 0 0) (some (.slice none 0 0, H)) = True := by simp [Same1, sameV]
theorem take_one {G : Heap} {l : List Heap} : List.take (0 + 1) (G :: l) = [G] := by simp
theorem take_two {G G2 : Heap} {l : List Heap} : List.take (1 + 1) (G :: G2 :: l) = [G, G2] := by simp
theorem yba {tbl : Nat → Option AFn} {e : Env} {H H0 G : Heap} {R : Env → Heap → Prop} {d : Option Nat} {op : AOp} {r : List DOper} {hist : List Heap} {v : Value} : CDops tbl d op false 1 r (G :: hist) e H0 R v H =
    (Again op e [G] (aop op e H0) ∧ AOD tbl r (G :: hist) (putE e d v) H R) := by rw [CDops_again (n := 0), take_one]
theorem ybb {tbl : Nat → Option AFn} {e : Env} {H H0 G G2 : Heap} {R : Env → Heap → Prop} {d : Option Nat} {op : AOp} {r : List DOper} {hist : List Heap} {v : Value} : CDops tbl d op false 2 r (G :: G2 :: hist) e H0 R v H =
    (Again op e [G, G2] (aop op e H0) ∧ AOD tbl r (G :: G2 :: hist) (putE e d v) H R) := by rw [CDops_again (n := 1), take_two]

section
variable {tbl : Nat → Option AFn} {e : Env} {H : Heap} {R : Env → Heap → Prop}
theorem yan {d : Option Nat} {t : Nat} {b : Bool} {op : AOp} {r : List AOper} (h : lk e t = some undef) : AO tbl (⟨d, some (t, b), op⟩ :: r) e H R = AO tbl r (putE e d undef) H R := by
  unfold AO
  simp only [aops, step, want, h, undef, zag]
theorem yaw {d : Option Nat} {t : Nat} {b : Bool} {op : AOp} {back : Nat} {r : List DOper} {hist : List Heap} (h : lk e t = some undef) : AOD tbl (⟨⟨d, some (t, b), op⟩, false, back⟩ :: r) hist e H R = AOD tbl r hist (putE e d undef) H R := by
  unfold AOD
  simp only [aopsD, step, want, h, undef, zag, okBack]
  simp
end

end Go.Proofs.Ytejcabdejoameaa.AI

/- Lengths of numbers in bits, and the library's functions that reckon them. -/
set_option linter.unusedSimpArgs false
namespace Go.Proofs.Ytejcabdejoameaa.AI
open Go

/-- How many bits a number has. -/
def blen (n : Nat) : Nat := if n = 0 then 0 else n.log2 + 1

theorem blen_zero : blen 0 = 0 := rfl
theorem blen_le {n k : Nat} : blen n ≤ k ↔ n < 2 ^ k := by
  unfold blen
  split
  · rename_i h; subst h; simp [Nat.two_pow_pos]
  · rename_i h
    rw [← Nat.log2_lt h]; omega
theorem blen_eq {n m : Nat} (h : ∀ k, n < 2 ^ k ↔ m ≤ k) : blen n = m := by
  have h1 := blen_le.2 ((h m).2 (Nat.le_refl _))
  have h2 := (h (blen n)).1 (blen_le.1 (Nat.le_refl _))
  omega
theorem blen_shift {n k : Nat} (h : 2 ^ k ≤ n) : blen n = k + blen (n / 2 ^ k) := by
  apply blen_eq
  intro j
  by_cases hj : k ≤ j
  · obtain ⟨i, rfl⟩ : ∃ i, j = k + i := ⟨j - k, by omega⟩
    have : n < 2 ^ (k + i) ↔ n / 2 ^ k < 2 ^ i := by
      rw [Nat.div_lt_iff_lt_mul (Nat.two_pow_pos k), Nat.pow_add, Nat.mul_comm]
    rw [this, ← blen_le]; omega
  · have h1 : 2 ^ j ≤ 2 ^ k := Nat.pow_le_pow_right (by omega) (by omega)
    constructor
    · intro h2; omega
    · intro h2; omega

theorem lenTab (x : Nat) (h : x < 256) : Lit0[x]? = some (UInt8.ofNat (blen x)) := by
  revert x; decide +kernel
theorem lenTab_nat (x : Nat) (h : x < 256) : (UInt8.ofNat (blen x)).toNat = blen x := by
  have h1 : blen x ≤ 8 := blen_le.2 h
  rw [UInt8.toNat_ofNat']; omega

theorem fdiv_nat (n m : Nat) : Int.fdiv (n : Int) (m : Int) = ((n / m : Nat) : Int) := by
  rw [Int.fdiv_eq_ediv_of_nonneg _ (by omega)]; rfl
theorem wrap_i64 {n : Int} (h1 : -9223372036854775808 ≤ n) (h2 : n < 9223372036854775808) : IntKind.i64.wrap n = n := by
  simp [IntKind.wrap, IntKind.bits, IntKind.signed]; omega
theorem wrap_u64 {n : Int} (h1 : 0 ≤ n) (h2 : n < 18446744073709551616) : IntKind.u64.wrap n = n := by
  simp [IntKind.wrap, IntKind.bits, IntKind.signed]; omega
theorem wrap_u64_eq (n : Int) : IntKind.u64.wrap n = n % 18446744073709551616 := by
  simp [IntKind.wrap, IntKind.bits, IntKind.signed]
theorem wrap_u8 (n : Int) : IntKind.u8.wrap n = n % 256 := by
  simp [IntKind.wrap, IntKind.bits, IntKind.signed]

theorem shr_nat (k : IntKind) (n : Nat) (s : Nat) (hs : s ≤ k.bits) : (n : Int).fdiv (2 ^ min ((s : Int)).toNat k.bits) = ((n / 2 ^ s : Nat) : Int) := by
  rw [show min ((s : Int)).toNat k.bits = s by simp; omega, ← fdiv_nat]; simp

end Go.Proofs.Ytejcabdejoameaa.AI

/- What the small functions of the writer and the reader come to. -/
set_option linter.unusedSimpArgs false
namespace Go.Proofs.Ytejcabdejoameaa.AI
open Go

theorem shr64 (a s : Nat) (hs : s ≤ 64) : binV .shr (.int .u64 a) (.int .u64 s) = some (.int .u64 ((a / 2 ^ s : Nat) : Int)) := by
  rw [binV_shr _ _ _ _ (by omega), shr_nat .u64 a s hs]
theorem shr64_32 (a : Nat) : binV .shr (.int .u64 a) (.int .u64 32) = some (.int .u64 ((a / 2 ^ 32 : Nat) : Int)) := shr64 a 32 (by decide)
theorem shr64_16 (a : Nat) : binV .shr (.int .u64 a) (.int .u64 16) = some (.int .u64 ((a / 2 ^ 16 : Nat) : Int)) := shr64 a 16 (by decide)
theorem shr64_8 (a : Nat) : binV .shr (.int .u64 a) (.int .u64 8) = some (.int .u64 ((a / 2 ^ 8 : Nat) : Int)) := shr64 a 8 (by decide)

theorem wrap_small (n : Nat) (h : n < 256) : IntKind.u8.wrap (n : Int) = n := by rw [wrap_u8]; omega
theorem wrap_len (n : Nat) (h : n < 1000) : IntKind.i64.wrap (n : Int) = n := wrap_i64 (by omega) (by omega)
theorem wrap_sum (c n : Nat) (h : c + n < 1000) : IntKind.i64.wrap ((c : Int) + (n : Int)) = ((c + n : Nat) : Int) := by rw [wrap_i64 (by omega) (by omega)]; rfl

theorem wrap_lit (c : Nat) (h : c < 1000) : IntKind.i64.wrap (c : Int) = c := wrap_len c h
theorem w0 (n : Nat) (h : n < 1000) : IntKind.i64.wrap ((0 : Int) + (n : Int)) = ((n : Nat) : Int) := by rw [wrap_i64 (by omega) (by omega)]; omega
theorem wc (c n : Nat) (h : c + n < 1000) : IntKind.i64.wrap ((c : Int) + (n : Int)) = ((c + n : Nat) : Int) := wrap_sum c n h

theorem len64 (n : Nat) (h : n < 18446744073709551616) : AC tbl 61 [.int .u64 n] [] = some (.int .i64 (blen n), []) := by
  apply AC_eq
  apply AC_wp (F := F61) rfl (by simp [F61]) (.inr rfl)
  have g1 : IntKind.i64.wrap (32 + 16) = 48 := by decide
  have g2 : IntKind.i64.wrap (32 + 8) = 40 := by decide
  have g3 : IntKind.i64.wrap (48 + 8) = 56 := by decide
  have g4 : IntKind.i64.wrap (0 + 16) = 16 := by decide
  have g5 : IntKind.i64.wrap (16 + 8) = 24 := by decide
  have g6 : IntKind.i64.wrap (0 + 8) = 8 := by decide
  by_cases h0 : (4294967296 : Int) ≤ (n : Nat)
  · have b0 : blen (n) = 32 + blen (n / 2 ^ 32) := blen_shift (by omega)
    by_cases h1 : (65536 : Int) ≤ (n / 2 ^ 32 : Nat)
    · have b1 : blen (n / 2 ^ 32) = 16 + blen (n / 2 ^ 32 / 2 ^ 16) := blen_shift (by omega)
      by_cases h2 : (256 : Int) ≤ (n / 2 ^ 32 / 2 ^ 16 : Nat)
      · have b2 : blen (n / 2 ^ 32 / 2 ^ 16) = 8 + blen (n / 2 ^ 32 / 2 ^ 16 / 2 ^ 8) := blen_shift (by omega)
        have hm : n / 2 ^ 32 / 2 ^ 16 / 2 ^ 8 < 256 := by omega
        have hb : blen (n / 2 ^ 32 / 2 ^ 16 / 2 ^ 8) ≤ 8 := blen_le.2 hm
        have hs : IntKind.i64.wrap ((56 : Int) + ((blen (n / 2 ^ 32 / 2 ^ 16 / 2 ^ 8) : Nat) : Int)) = (blen n : Int) := by rw [wrap_i64 (by omega) (by omega)]; omega
        simp only [F61, ↓yaa, ↓yab, ↓yac, ↓yad, ↓yae, ↓yaf, ↓yag, ↓yah, ↓yai, ↓yaj, ↓yak, ↓yal, ↓yam, ↓yan, ↓yao, ↓yap, ↓yaq, ↓yar, ↓yas, ↓yat, ↓yau, ↓yav, ↓yaw, ↓yax, yay, yaz, yba, ybb, ybc, ybd, ybe, ybf, ybg, ybh, ybi, ybj, ybk, ybl, ybm, ybn, ybo, ybp, ybq, ybr, ybs, ybt, ybu, ybv, ares, tup, ybw, ybx, yby, argsE, dval, aop, ev, evs, evo, evp, fillL, addrOf, intOf?, ybz, yca, ycb, ycc, ycd, yce, ycf, zah, zag, reduceIte, Nat.reduceEqDiff, ycg, ych, yci, ycj, yck, ycl, ycm, ycn, yco, ycp, ycq, ycr, zap, zao, reduceCtorEq, zbb, zbc, zba, zaz, Nat.reduceAdd, Nat.reduceMul, zaq, zar, eqPtr, zae, zaf, zab, zaa, zac, zad , h0, h1, h2, shr64_32, shr64_16, shr64_8, wrap_small _ hm, Int.toNat_natCast, lenTab _ hm, Int.natCast_nonneg, lenTab_nat _ hm, wrap_len (blen (n / 2 ^ 32 / 2 ^ 16 / 2 ^ 8)) (by omega), g1, g2, g3, g4, g5, g6, hs, and_self]
      · have hm : n / 2 ^ 32 / 2 ^ 16 < 256 := by omega
        have hb : blen (n / 2 ^ 32 / 2 ^ 16) ≤ 8 := blen_le.2 hm
        have hs : IntKind.i64.wrap ((48 : Int) + ((blen (n / 2 ^ 32 / 2 ^ 16) : Nat) : Int)) = (blen n : Int) := by rw [wrap_i64 (by omega) (by omega)]; omega
        simp only [F61, ↓yaa, ↓yab, ↓yac, ↓yad, ↓yae, ↓yaf, ↓yag, ↓yah, ↓yai, ↓yaj, ↓yak, ↓yal, ↓yam, ↓yan, ↓yao, ↓yap, ↓yaq, ↓yar, ↓yas, ↓yat, ↓yau, ↓yav, ↓yaw, ↓yax, yay, yaz, yba, ybb, ybc, ybd, ybe, ybf, ybg, ybh, ybi, ybj, ybk, ybl, ybm, ybn, ybo, ybp, ybq, ybr, ybs, ybt, ybu, ybv, ares, tup, ybw, ybx, yby, argsE, dval, aop, ev, evs, evo, evp, fillL, addrOf, intOf?, ybz, yca, ycb, ycc, ycd, yce, ycf, zah, zag, reduceIte, Nat.reduceEqDiff, ycg, ych, yci, ycj, yck, ycl, ycm, ycn, yco, ycp, ycq, ycr, zap, zao, reduceCtorEq, zbb, zbc, zba, zaz, Nat.reduceAdd, Nat.reduceMul, zaq, zar, eqPtr, zae, zaf, zab, zaa, zac, zad , h0, h1, h2, shr64_32, shr64_16, shr64_8, wrap_small _ hm, Int.toNat_natCast, lenTab _ hm, Int.natCast_nonneg, lenTab_nat _ hm, wrap_len (blen (n / 2 ^ 32 / 2 ^ 16)) (by omega), g1, g2, g3, g4, g5, g6, hs, and_self]
    · by_cases h2 : (256 : Int) ≤ (n / 2 ^ 32 : Nat)
      · have b2 : blen (n / 2 ^ 32) = 8 + blen (n / 2 ^ 32 / 2 ^ 8) := blen_shift (by omega)
        have hm : n / 2 ^ 32 / 2 ^ 8 < 256 := by omega
        have hb : blen (n / 2 ^ 32 / 2 ^ 8) ≤ 8 := blen_le.2 hm
        have hs : IntKind.i64.wrap ((40 : Int) + ((blen (n / 2 ^ 32 / 2 ^ 8) : Nat) : Int)) = (blen n : Int) := by rw [wrap_i64 (by omega) (by omega)]; omega
        simp only [F61, ↓yaa, ↓yab, ↓yac, ↓yad, ↓yae, ↓yaf, ↓yag, ↓yah, ↓yai, ↓yaj, ↓yak, ↓yal, ↓yam, ↓yan, ↓yao, ↓yap, ↓yaq, ↓yar, ↓yas, ↓yat, ↓yau, ↓yav, ↓yaw, ↓yax, yay, yaz, yba, ybb, ybc, ybd, ybe, ybf, ybg, ybh, ybi, ybj, ybk, ybl, ybm, ybn, ybo, ybp, ybq, ybr, ybs, ybt, ybu, ybv, ares, tup, ybw, ybx, yby, argsE, dval, aop, ev, evs, evo, evp, fillL, addrOf, intOf?, ybz, yca, ycb, ycc, ycd, yce, ycf, zah, zag, reduceIte, Nat.reduceEqDiff, ycg, ych, yci, ycj, yck, ycl, ycm, ycn, yco, ycp, ycq, ycr, zap, zao, reduceCtorEq, zbb, zbc, zba, zaz, Nat.reduceAdd, Nat.reduceMul, zaq, zar, eqPtr, zae, zaf, zab, zaa, zac, zad , h0, h1, h2, shr64_32, shr64_16, shr64_8, wrap_small _ hm, Int.toNat_natCast, lenTab _ hm, Int.natCast_nonneg, lenTab_nat _ hm, wrap_len (blen (n / 2 ^ 32 / 2 ^ 8)) (by omega), g1, g2, g3, g4, g5, g6, hs, and_self]
      · have hm : n / 2 ^ 32 < 256 := by omega
        have hb : blen (n / 2 ^ 32) ≤ 8 := blen_le.2 hm
        have hs : IntKind.i64.wrap ((32 : Int) + ((blen (n / 2 ^ 32) : Nat) : Int)) = (blen n : Int) := by rw [wrap_i64 (by omega) (by omega)]; omega
        simp only [F61, ↓yaa, ↓yab, ↓yac, ↓yad, ↓yae, ↓yaf, ↓yag, ↓yah, ↓yai, ↓yaj, ↓yak, ↓yal, ↓yam, ↓yan, ↓yao, ↓yap, ↓yaq, ↓yar, ↓yas, ↓yat, ↓yau, ↓yav, ↓yaw, ↓yax, yay, yaz, yba, ybb, ybc, ybd, ybe, ybf, ybg, ybh, ybi, ybj, ybk, ybl, ybm, ybn, ybo, ybp, ybq, ybr, ybs, ybt, ybu, ybv, ares, tup, ybw, ybx, yby, argsE, dval, aop, ev, evs, evo, evp, fillL, addrOf, intOf?, ybz, yca, ycb, ycc, ycd, yce, ycf, zah, zag, reduceIte, Nat.reduceEqDiff, ycg, ych, yci, ycj, yck, ycl, ycm, ycn, yco, ycp, ycq, ycr, zap, zao, reduceCtorEq, zbb, zbc, zba, zaz, Nat.reduceAdd, Nat.reduceMul, zaq, zar, eqPtr, zae, zaf, zab, zaa, zac, zad , h0, h1, h2, shr64_32, shr64_16, shr64_8, wrap_small _ hm, Int.toNat_natCast, lenTab _ hm, Int.natCast_nonneg, lenTab_nat _ hm, wrap_len (blen (n / 2 ^ 32)) (by omega), g1, g2, g3, g4, g5, g6, hs, and_self]
  · by_cases h1 : (65536 : Int) ≤ (n : Nat)
    · have b1 : blen (n) = 16 + blen (n / 2 ^ 16) := blen_shift (by omega)
      by_cases h2 : (256 : Int) ≤ (n / 2 ^ 16 : Nat)
      · have b2 : blen (n / 2 ^ 16) = 8 + blen (n / 2 ^ 16 / 2 ^ 8) := blen_shift (by omega)
        have hm : n / 2 ^ 16 / 2 ^ 8 < 256 := by omega
        have hb : blen (n / 2 ^ 16 / 2 ^ 8) ≤ 8 := blen_le.2 hm
        have hs : IntKind.i64.wrap ((24 : Int) + ((blen (n / 2 ^ 16 / 2 ^ 8) : Nat) : Int)) = (blen n : Int) := by rw [wrap_i64 (by omega) (by omega)]; omega
        simp only [F61, ↓yaa, ↓yab, ↓yac, ↓yad, ↓yae, ↓yaf, ↓yag, ↓yah, ↓yai, ↓yaj, ↓yak, ↓yal, ↓yam, ↓yan, ↓yao, ↓yap, ↓yaq, ↓yar, ↓yas, ↓yat, ↓yau, ↓yav, ↓yaw, ↓yax, yay, yaz, yba, ybb, ybc, ybd, ybe, ybf, ybg, ybh, ybi, ybj, ybk, ybl, ybm, ybn, ybo, ybp, ybq, ybr, ybs, ybt, ybu, ybv, ares, tup, ybw, ybx, yby, argsE, dval, aop, ev, evs, evo, evp, fillL, addrOf, intOf?, ybz, yca, ycb, ycc, ycd, yce, ycf, zah, zag, reduceIte, Nat.reduceEqDiff, ycg, ych, yci, ycj, yck, ycl, ycm, ycn, yco, ycp, ycq, ycr, zap, zao, reduceCtorEq, zbb, zbc, zba, zaz, Nat.reduceAdd, Nat.reduceMul, zaq, zar, eqPtr, zae, zaf, zab, zaa, zac, zad , h0, h1, h2, shr64_32, shr64_16, shr64_8, wrap_small _ hm, Int.toNat_natCast, lenTab _ hm, Int.natCast_nonneg, lenTab_nat _ hm, wrap_len (blen (n / 2 ^ 16 / 2 ^ 8)) (by omega), g1, g2, g3, g4, g5, g6, hs, and_self]
      · have hm : n / 2 ^ 16 < 256 := by omega
        have hb : blen (n / 2 ^ 16) ≤ 8 := blen_le.2 hm
        have hs : IntKind.i64.wrap ((16 : Int) + ((blen (n / 2 ^ 16) : Nat) : Int)) = (blen n : Int) := by rw [wrap_i64 (by omega) (by omega)]; omega
        simp only [F61, ↓yaa, ↓yab, ↓yac, ↓yad, ↓yae, ↓yaf, ↓yag, ↓yah, ↓yai, ↓yaj, ↓yak, ↓yal, ↓yam, ↓yan, ↓yao, ↓yap, ↓yaq, ↓yar, ↓yas, ↓yat, ↓yau, ↓yav, ↓yaw, ↓yax, yay, yaz, yba, ybb, ybc, ybd, ybe, ybf, ybg, ybh, ybi, ybj, ybk, ybl, ybm, ybn, ybo, ybp, ybq, ybr, ybs, ybt, ybu, ybv, ares, tup, ybw, ybx, yby, argsE, dval, aop, ev, evs, evo, evp, fillL, addrOf, intOf?, ybz, yca, ycb, ycc, ycd, yce, ycf, zah, zag, reduceIte, Nat.reduceEqDiff, ycg, ych, yci, ycj, yck, ycl, ycm, ycn, yco, ycp, ycq, ycr, zap, zao, reduceCtorEq, zbb, zbc, zba, zaz, Nat.reduceAdd, Nat.reduceMul, zaq, zar, eqPtr, zae, zaf, zab, zaa, zac, zad , h0, h1, h2, shr64_32, shr64_16, shr64_8, wrap_small _ hm, Int.toNat_natCast, lenTab _ hm, Int.natCast_nonneg, lenTab_nat _ hm, wrap_len (blen (n / 2 ^ 16)) (by omega), g1, g2, g3, g4, g5, g6, hs, and_self]
    · by_cases h2 : (256 : Int) ≤ (n : Nat)
      · have b2 : blen (n) = 8 + blen (n / 2 ^ 8) := blen_shift (by omega)
        have hm : n / 2 ^ 8 < 256 := by omega
        have hb : blen (n / 2 ^ 8) ≤ 8 := blen_le.2 hm
        have hs : IntKind.i64.wrap ((8 : Int) + ((blen (n / 2 ^ 8) : Nat) : Int)) = (blen n : Int) := by rw [wrap_i64 (by omega) (by omega)]; omega
        simp only [F61, ↓yaa, ↓yab, ↓yac, ↓yad, ↓yae, ↓yaf, ↓yag, ↓yah, ↓yai, ↓yaj, ↓yak, ↓yal, ↓yam, ↓yan, ↓yao, ↓yap, ↓yaq, ↓yar, ↓yas, ↓yat, ↓yau, ↓yav, ↓yaw, ↓yax, yay, yaz, yba, ybb, ybc, ybd, ybe, ybf, ybg, ybh, ybi, ybj, ybk, ybl, ybm, ybn, ybo, ybp, ybq, ybr, ybs, ybt, ybu, ybv, ares, tup, ybw, ybx, yby, argsE, dval, aop, ev, evs, evo, evp, fillL, addrOf, intOf?, ybz, yca, ycb, ycc, ycd, yce, ycf, zah, zag, reduceIte, Nat.reduceEqDiff, ycg, ych, yci, ycj, yck, ycl, ycm, ycn, yco, ycp, ycq, ycr, zap, zao, reduceCtorEq, zbb, zbc, zba, zaz, Nat.reduceAdd, Nat.reduceMul, zaq, zar, eqPtr, zae, zaf, zab, zaa, zac, zad , h0, h1, h2, shr64_32, shr64_16, shr64_8, wrap_small _ hm, Int.toNat_natCast, lenTab _ hm, Int.natCast_nonneg, lenTab_nat _ hm, wrap_len (blen (n / 2 ^ 8)) (by omega), g1, g2, g3, g4, g5, g6, hs, and_self]
      · have hm : n < 256 := by omega
        have hb : blen (n) ≤ 8 := blen_le.2 hm
        have hs : IntKind.i64.wrap ((0 : Int) + ((blen (n) : Nat) : Int)) = (blen n : Int) := by rw [wrap_i64 (by omega) (by omega)]; omega
        simp only [F61, ↓yaa, ↓yab, ↓yac, ↓yad, ↓yae, ↓yaf, ↓yag, ↓yah, ↓yai, ↓yaj, ↓yak, ↓yal, ↓yam, ↓yan, ↓yao, ↓yap, ↓yaq, ↓yar, ↓yas, ↓yat, ↓yau, ↓yav, ↓yaw, ↓yax, yay, yaz, yba, ybb, ybc, ybd, ybe, ybf, ybg, ybh, ybi, ybj, ybk, ybl, ybm, ybn, ybo, ybp, ybq, ybr, ybs, ybt, ybu, ybv, ares, tup, ybw, ybx, yby, argsE, dval, aop, ev, evs, evo, evp, fillL, addrOf, intOf?, ybz, yca, ycb, ycc, ycd, yce, ycf, zah, zag, reduceIte, Nat.reduceEqDiff, ycg, ych, yci, ycj, yck, ycl, ycm, ycn, yco, ycp, ycq, ycr, zap, zao, reduceCtorEq, zbb, zbc, zba, zaz, Nat.reduceAdd, Nat.reduceMul, zaq, zar, eqPtr, zae, zaf, zab, zaa, zac, zad , h0, h1, h2, shr64_32, shr64_16, shr64_8, wrap_small _ hm, Int.toNat_natCast, lenTab _ hm, Int.natCast_nonneg, lenTab_nat _ hm, wrap_len (blen (n)) (by omega), g1, g2, g3, g4, g5, g6, hs, and_self]

end Go.Proofs.Ytejcabdejoameaa.AI

/- Widths. -/
set_option linter.unusedSimpArgs false
namespace Go.Proofs.Ytejcabdejoameaa.AI
open Go

theorem len64_any (n : Nat) (h : n < 18446744073709551616) (H : Heap) : AC tbl 61 [.int .u64 n] H = some (.int .i64 (blen n), H) :=
  AC_iso (F := F61) rfl (by simp [F61]) rfl rfl rfl (len64 n h) H
theorem len (n : Nat) (h : n < 18446744073709551616) : AC tbl 49 [.int .u64 n] [] = some (.int .i64 (blen n), []) := by
  apply AC_eq
  apply AC_wp (F := F49) rfl (by simp [F49]) (.inr rfl)
  simp only [F49, ↓yaa, ↓yab, ↓yac, ↓yad, ↓yae, ↓yaf, ↓yag, ↓yah, ↓yai, ↓yaj, ↓yak, ↓yal, ↓yam, ↓yan, ↓yao, ↓yap, ↓yaq, ↓yar, ↓yas, ↓yat, ↓yau, ↓yav, ↓yaw, ↓yax, yay, yaz, yba, ybb, ybc, ybd, ybe, ybf, ybg, ybh, ybi, ybj, ybk, ybl, ybm, ybn, ybo, ybp, ybq, ybr, ybs, ybt, ybu, ybv, ares, tup, ybw, ybx, yby, argsE, dval, aop, ev, evs, evo, evp, fillL, addrOf, intOf?, ybz, yca, ycb, ycc, ycd, yce, ycf, zah, zag, reduceIte, Nat.reduceEqDiff, ycg, ych, yci, ycj, yck, ycl, ycm, ycn, yco, ycp, ycq, ycr, zap, zao, reduceCtorEq, zbb, zbc, zba, zaz, Nat.reduceAdd, Nat.reduceMul, zaq, zar, eqPtr, zae, zaf, zab, zaa, zac, zad , len64 n h, and_self]
theorem len_any (n : Nat) (h : n < 18446744073709551616) (H : Heap) : AC tbl 49 [.int .u64 n] H = some (.int .i64 (blen n), H) :=
  AC_iso (F := F49) rfl (by simp [F49]) rfl rfl rfl (len n h) H

/-- The width of a number. -/
def wd (n : Int) : Nat := if n < 0 then 0 else max 1 (blen n.toNat)
theorem wd_of {n : Nat} : wd n = max 1 (blen n) := by simp [wd]; intro h; omega

theorem width0 (n : Int) (h1 : n < 9223372036854775808) : AC tbl 24 [.int .i64 n] [] = some (.int .i64 (wd n), []) := by
  apply AC_eq
  apply AC_wp (F := F24) rfl (by simp [F24]) (.inr rfl)
  by_cases h : n < 0
  · simp only [F24, ↓yaa, ↓yab, ↓yac, ↓yad, ↓yae, ↓yaf, ↓yag, ↓yah, ↓yai, ↓yaj, ↓yak, ↓yal, ↓yam, ↓yan, ↓yao, ↓yap, ↓yaq, ↓yar, ↓yas, ↓yat, ↓yau, ↓yav, ↓yaw, ↓yax, yay, yaz, yba, ybb, ybc, ybd, ybe, ybf, ybg, ybh, ybi, ybj, ybk, ybl, ybm, ybn, ybo, ybp, ybq, ybr, ybs, ybt, ybu, ybv, ares, tup, ybw, ybx, yby, argsE, dval, aop, ev, evs, evo, evp, fillL, addrOf, intOf?, ybz, yca, ycb, ycc, ycd, yce, ycf, zah, zag, reduceIte, Nat.reduceEqDiff, ycg, ych, yci, ycj, yck, ycl, ycm, ycn, yco, ycp, ycq, ycr, zap, zao, reduceCtorEq, zbb, zbc, zba, zaz, Nat.reduceAdd, Nat.reduceMul, zaq, zar, eqPtr, zae, zaf, zab, zaa, zac, zad , h, wd, and_self]; simp
  · obtain ⟨m, rfl⟩ : ∃ m : Nat, n = m := ⟨n.toNat, by omega⟩
    have hl := len m (by omega)
    simp only [F24, ↓yaa, ↓yab, ↓yac, ↓yad, ↓yae, ↓yaf, ↓yag, ↓yah, ↓yai, ↓yaj, ↓yak, ↓yal, ↓yam, ↓yan, ↓yao, ↓yap, ↓yaq, ↓yar, ↓yas, ↓yat, ↓yau, ↓yav, ↓yaw, ↓yax, yay, yaz, yba, ybb, ybc, ybd, ybe, ybf, ybg, ybh, ybi, ybj, ybk, ybl, ybm, ybn, ybo, ybp, ybq, ybr, ybs, ybt, ybu, ybv, ares, tup, ybw, ybx, yby, argsE, dval, aop, ev, evs, evo, evp, fillL, addrOf, intOf?, ybz, yca, ycb, ycc, ycd, yce, ycf, zah, zag, reduceIte, Nat.reduceEqDiff, ycg, ych, yci, ycj, yck, ycl, ycm, ycn, yco, ycp, ycq, ycr, zap, zao, reduceCtorEq, zbb, zbc, zba, zaz, Nat.reduceAdd, Nat.reduceMul, zaq, zar, eqPtr, zae, zaf, zab, zaa, zac, zad , h, wrap_u64 (Int.natCast_nonneg m) (by omega : (m : Int) < 18446744073709551616), hl, wd_of]
    refine ⟨?_, trivial⟩
    by_cases h3 : ((blen m : Nat) : Int) > 1
    · rw [if_pos h3]; congr 2; omega
    · rw [if_neg h3]; congr 1; omega
theorem width (n : Int) (h1 : n < 9223372036854775808) (H : Heap) : AC tbl 24 [.int .i64 n] H = some (.int .i64 (wd n), H) :=
  AC_iso (F := F24) rfl (by simp [F24]) rfl rfl rfl (width0 n h1) H

def lim (n : Int) : Bool := decide (1 ≤ n) && decide (n ≤ 4095)
theorem limit0 (n : Int) : AC tbl 55 [.int .i64 n] [] = some (.bool (lim n), []) := by
  apply AC_eq
  apply AC_wp (F := F55) rfl (by simp [F55]) (.inr rfl)
  by_cases h : 1 ≤ n <;> simp only [F55, ↓yaa, ↓yab, ↓yac, ↓yad, ↓yae, ↓yaf, ↓yag, ↓yah, ↓yai, ↓yaj, ↓yak, ↓yal, ↓yam, ↓yan, ↓yao, ↓yap, ↓yaq, ↓yar, ↓yas, ↓yat, ↓yau, ↓yav, ↓yaw, ↓yax, yay, yaz, yba, ybb, ybc, ybd, ybe, ybf, ybg, ybh, ybi, ybj, ybk, ybl, ybm, ybn, ybo, ybp, ybq, ybr, ybs, ybt, ybu, ybv, ares, tup, ybw, ybx, yby, argsE, dval, aop, ev, evs, evo, evp, fillL, addrOf, intOf?, ybz, yca, ycb, ycc, ycd, yce, ycf, zah, zag, reduceIte, Nat.reduceEqDiff, ycg, ych, yci, ycj, yck, ycl, ycm, ycn, yco, ycp, ycq, ycr, zap, zao, reduceCtorEq, zbb, zbc, zba, zaz, Nat.reduceAdd, Nat.reduceMul, zaq, zar, eqPtr, zae, zaf, zab, zaa, zac, zad , h, lim, zaw, Bool.false_and, and_self]
theorem limit (n : Int) (H : Heap) : AC tbl 55 [.int .i64 n] H = some (.bool (lim n), H) :=
  AC_iso (F := F55) rfl (by simp [F55]) rfl rfl rfl (limit0 n) H

theorem blen_half {n : Nat} (h : 2 ≤ n) : blen n = 1 + blen (n / 2) := by
  have := blen_shift (n := n) (k := 1) (by simpa using h); simpa using this
theorem refWidth0 (n : Int) (h1 : n < 9223372036854775808) : AC tbl 54 [.int .i64 n] [] = some (.int .i64 (wd n), []) := by
  apply AC_eq
  apply AC_wp (F := F54) rfl (by simp [F54]) (.inr rfl)
  by_cases h : n < 0
  · simp only [F54, ↓yaa, ↓yab, ↓yac, ↓yad, ↓yae, ↓yaf, ↓yag, ↓yah, ↓yai, ↓yaj, ↓yak, ↓yal, ↓yam, ↓yan, ↓yao, ↓yap, ↓yaq, ↓yar, ↓yas, ↓yat, ↓yau, ↓yav, ↓yaw, ↓yax, yay, yaz, yba, ybb, ybc, ybd, ybe, ybf, ybg, ybh, ybi, ybj, ybk, ybl, ybm, ybn, ybo, ybp, ybq, ybr, ybs, ybt, ybu, ybv, ares, tup, ybw, ybx, yby, argsE, dval, aop, ev, evs, evo, evp, fillL, addrOf, intOf?, ybz, yca, ycb, ycc, ycd, yce, ycf, zah, zag, reduceIte, Nat.reduceEqDiff, ycg, ych, yci, ycj, yck, ycl, ycm, ycn, yco, ycp, ycq, ycr, zap, zao, reduceCtorEq, zbb, zbc, zba, zaz, Nat.reduceAdd, Nat.reduceMul, zaq, zar, eqPtr, zae, zaf, zab, zaa, zac, zad , h, wd, and_self]; simp
  · obtain ⟨m, rfl⟩ : ∃ m : Nat, n = m := ⟨n.toNat, by omega⟩
    have q0 : ¬ (2 : Int) = 0 := by omega
    simp only [F54, ↓yaa, ↓yab, ↓yac, ↓yad, ↓yae, ↓yaf, ↓yag, ↓yai, ↓yao, ybk, ybl, ybm, ybn, argsE, dval, aop, ev, ybz, yca, ycb, ycc, ycd, yce, ycf, zah, zag, reduceIte, Nat.reduceEqDiff, ycg, ycq, h, zbc]
    apply AW_loop_inv (fun k e H => ∃ (a c : Nat), a = k ∧ H = [] ∧ e = [(0, .int .i64 a), (3, .int .i64 c)] ∧ c + max 1 (blen a) = 1 + wd m ∧ a < 9223372036854775808 ∧ c < 1000) _ m
    · exact ⟨m, 1, rfl, rfl, rfl, by rw [wd_of], by omega, by omega⟩
    · rintro k e H ⟨a, c, rfl, rfl, rfl, h2, h3, h4⟩
      by_cases h5 : (2 : Int) ≤ a
      · have hb := blen_half (n := a) (by omega)
        have hq : IntKind.i64.wrap ((a : Int).tdiv 2) = ((a / 2 : Nat) : Int) := by
          rw [show ((a : Int)).tdiv 2 = ((a / 2 : Nat) : Int) from rfl, wrap_i64 (by omega) (by omega)]
        have hw : wd m ≤ 64 := by
          rw [wd_of]; have := (@blen_le m 64).2 (by omega); omega
        have hc : IntKind.i64.wrap ((c : Int) + 1) = ((c + 1 : Nat) : Int) := by rw [wrap_i64 (by omega) (by omega)]; rfl
        simp only [↓yaa, ↓yab, ↓yac, ↓yad, ↓yae, ↓yaf, ↓yag, ↓yah, ↓yai, ↓yaj, ↓yak, ↓yal, ↓yam, ↓yan, ↓yao, ↓yap, ↓yaq, ↓yar, ↓yas, ↓yat, ↓yau, ↓yav, ↓yaw, ↓yax, yay, yaz, yba, ybb, ybc, ybd, ybe, ybf, ybg, ybh, ybi, ybj, ybk, ybl, ybm, ybn, ybo, ybp, ybq, ybr, ybs, ybt, ybu, ybv, ares, tup, ybw, ybx, yby, argsE, dval, aop, ev, evs, evo, evp, fillL, addrOf, intOf?, ybz, yca, ycb, ycc, ycd, yce, ycf, zah, zag, reduceIte, Nat.reduceEqDiff, ycg, ych, yci, ycj, yck, ycl, ycm, ycn, yco, ycp, ycq, ycr, zap, zao, reduceCtorEq, zbb, zbc, zba, zaz, Nat.reduceAdd, Nat.reduceMul, zaq, zar, eqPtr, zae, zaf, zab, zaa, zac, zad , binV_quo _ _ _ q0, h5, hq, hc]
        have h6 : (blen (a / 2)) ≥ 1 := by
          have := @blen_le (a / 2) 0
          omega
        exact ⟨a / 2, by omega, a / 2, c + 1, rfl, rfl, rfl, by omega, by omega, by omega⟩
      · have hb : blen a ≤ 1 := blen_le.2 (by omega)
        simp only [↓yaa, ↓yab, ↓yac, ↓yad, ↓yae, ↓yaf, ↓yag, ↓yah, ↓yai, ↓yaj, ↓yak, ↓yal, ↓yam, ↓yan, ↓yao, ↓yap, ↓yaq, ↓yar, ↓yas, ↓yat, ↓yau, ↓yav, ↓yaw, ↓yax, yay, yaz, yba, ybb, ybc, ybd, ybe, ybf, ybg, ybh, ybi, ybj, ybk, ybl, ybm, ybn, ybo, ybp, ybq, ybr, ybs, ybt, ybu, ybv, ares, tup, ybw, ybx, yby, argsE, dval, aop, ev, evs, evo, evp, fillL, addrOf, intOf?, ybz, yca, ycb, ycc, ycd, yce, ycf, zah, zag, reduceIte, Nat.reduceEqDiff, ycg, ych, yci, ycj, yck, ycl, ycm, ycn, yco, ycp, ycq, ycr, zap, zao, reduceCtorEq, zbb, zbc, zba, zaz, Nat.reduceAdd, Nat.reduceMul, zaq, zar, eqPtr, zae, zaf, zab, zaa, zac, zad , h5]
        refine ⟨?_, trivial⟩
        congr 1; omega
theorem refWidth (n : Int) (h1 : n < 9223372036854775808) (H : Heap) : AC tbl 54 [.int .i64 n] H = some (.int .i64 (wd n), H) :=
  AC_iso (F := F54) rfl (by simp [F54]) rfl rfl rfl (refWidth0 n h1) H

end Go.Proofs.Ytejcabdejoameaa.AI

/- Strings of bits, and the bytes that hold them. -/
set_option linter.unusedSimpArgs false
namespace Go.Proofs.Ytejcabdejoameaa.AI
open Go

/-- A number's bits, the highest first. -/
def bitsOf : Nat → Nat → List Bool
  | 0, _ => []
  | w + 1, n => n.testBit w :: bitsOf w n
theorem bitsOf_length (w n : Nat) : (bitsOf w n).length = w := by
  induction w with
  | zero => rfl
  | succ w ih => simp [bitsOf, ih]

/-- The bytes hold the bits; behind these all is 0. -/
structure Bits (d : List Nat) (bs : List Bool) : Prop where
  small : ∀ x ∈ d, x < 256
  bit : ∀ j x, d[j]? = some x → ∀ k, k < 8 → x.testBit (7 - k) = bs.getD (8 * j + k) false

theorem Bits.nil : Bits [] [] := ⟨fun _ h => by simp at h, fun j x h => by simp at h⟩
theorem Bits.zero {d : List Nat} {bs : List Bool} (h : Bits d bs) (hl : bs.length ≤ 8 * d.length) : Bits (d ++ [0]) bs := by
  refine ⟨fun x hx => ?_, fun j x hx k hk => ?_⟩
  · rcases List.mem_append.1 hx with hx | hx
    · exact h.small x hx
    · simp at hx; omega
  · rw [List.getElem?_append] at hx
    split at hx
    · exact h.bit j x hx k hk
    · have : j = d.length ∧ x = 0 := by
        rcases Nat.lt_or_ge (j - d.length) 1 with h1 | h1
        · have : j - d.length = 0 := by omega
          rw [this] at hx; simp at hx; exact ⟨by omega, hx.symm⟩
        · rw [List.getElem?_eq_none (by simpa using h1)] at hx; simp at hx
      obtain ⟨rfl, rfl⟩ := this
      rw [List.getD_eq_getElem?_getD, List.getElem?_eq_none (by omega)]
      simp
theorem Bits.put {d : List Nat} {bs : List Bool} (h : Bits d bs) (b : Bool) {j x : Nat} (hj : j = bs.length / 8) (hx : d[j]? = some x) :
    Bits (d.set j (x ||| (b.toNat <<< (7 - bs.length % 8)))) (bs ++ [b]) := by
  have hlt : j < d.length := (List.getElem?_eq_some_iff.1 hx).1
  have hxs : x < 256 := h.small x (List.mem_of_getElem? hx)
  have hb : b.toNat <<< (7 - bs.length % 8) < 256 := by
    rw [Nat.shiftLeft_eq]
    have h1 : 2 ^ (7 - bs.length % 8) ≤ 2 ^ 7 := Nat.pow_le_pow_right (by omega) (by omega)
    have h2 : b.toNat ≤ 1 := by cases b <;> simp
    calc b.toNat * 2 ^ (7 - bs.length % 8) ≤ 1 * 2 ^ 7 := Nat.mul_le_mul h2 h1
      _ < 256 := by decide
  refine ⟨fun y hy => ?_, fun i y hy k hk => ?_⟩
  · rcases List.mem_or_eq_of_mem_set hy with hy | rfl
    · exact h.small y hy
    · exact Nat.or_lt_two_pow (n := 8) hxs hb
  · rw [List.getElem?_set] at hy
    split at hy
    · rename_i hji
      subst hji
      simp only [Option.some.injEq] at hy
      subst hy
      rw [Nat.testBit_or, h.bit j x hx k hk, Nat.testBit_shiftLeft]
      have hbt : ∀ i, b.toNat.testBit i = (decide (i = 0) && b) := by
        intro i; cases b
        · simp
        · cases i <;> simp [Nat.testBit_succ]
      rw [hbt]
      simp only [List.getD_eq_getElem?_getD, List.getElem?_append]
      by_cases h1 : 8 * j + k < bs.length
      · rw [if_pos h1]
        have : decide (7 - bs.length % 8 ≤ 7 - k) = true ∧ ¬ (7 - k - (7 - bs.length % 8) = 0) := by
          constructor
          · simp; omega
          · omega
        simp [this.2]
      · rw [if_neg h1, List.getElem?_eq_none (by omega : bs.length ≤ 8 * j + k)]
        by_cases h2 : 8 * j + k = bs.length
        · have e1 : 8 * j + k - bs.length = 0 := by omega
          have e2 : 7 - k - (7 - bs.length % 8) = 0 := by omega
          have e3 : 7 - bs.length % 8 ≤ 7 - k := by omega
          simp [e1, e2, e3]
        · have e3 : ¬ (7 - bs.length % 8 ≤ 7 - k) := by omega
          have e1 : 8 * j + k - bs.length = (8 * j + k - bs.length - 1) + 1 := by omega
          rw [e1]
          simp [e3]
    · have hne := h.bit i y hy k hk
      rw [hne]
      simp only [List.getD_eq_getElem?_getD, List.getElem?_append]
      split
      · rfl
      · rename_i h1 h2
        rw [List.getElem?_eq_none (by omega : bs.length ≤ 8 * i + k)]
        have : 8 * i + k - bs.length = (8 * i + k - bs.length - 1) + 1 := by omega
        rw [this]
        simp

theorem Bits.same {d d' : List Nat} {bs : List Bool} (h : Bits d bs) (h' : Bits d' bs) (hl : d.length = d'.length) : d = d' := by
  apply List.ext_getElem hl
  intro j h1 h2
  apply Nat.eq_of_testBit_eq
  intro i
  by_cases hi : i < 8
  · have a := h.bit j _ (List.getElem?_eq_getElem h1) (7 - i) (by omega)
    have b := h'.bit j _ (List.getElem?_eq_getElem h2) (7 - i) (by omega)
    rw [show 7 - (7 - i) = i by omega] at a b
    rw [a, b]
  · have a : d[j] < 2 ^ i := Nat.lt_of_lt_of_le (h.small _ (List.getElem_mem h1)) (by
      calc 256 = 2 ^ 8 := by decide
        _ ≤ 2 ^ i := Nat.pow_le_pow_right (by omega) (by omega))
    have b : d'[j] < 2 ^ i := Nat.lt_of_lt_of_le (h'.small _ (List.getElem_mem h2)) (by
      calc 256 = 2 ^ 8 := by decide
        _ ≤ 2 ^ i := Nat.pow_le_pow_right (by omega) (by omega))
    rw [Nat.testBit_lt_two_pow a, Nat.testBit_lt_two_pow b]

/-! Operations on bytes. -/
theorem and1 (a : Nat) (h : a < 18446744073709551616) : binV .and (.int .u64 a) (.int .u64 1) = some (.int .u64 ((a % 2 : Nat) : Int)) := by
  rw [binV_and, wrap_u64_eq]
  congr 2
  have : (BitVec.ofInt IntKind.u64.bits (a : Int) &&& BitVec.ofInt IntKind.u64.bits 1).toNat = a % 2 := by
    rw [BitVec.toNat_and]
    simp only [BitVec.toNat_ofInt, IntKind.bits]
    have : ((a : Int) % ((2 ^ 64 : Nat) : Int)).toNat = a := by
      rw [show ((2 ^ 64 : Nat) : Int) = 18446744073709551616 by decide]; omega
    rw [this, show ((1 : Int) % ((2 ^ 64 : Nat) : Int)).toNat = 1 by decide, Nat.and_one_is_mod]
  rw [this]; omega
theorem or8 (a c : Nat) (ha : a < 256) (hc : c < 256) : binV .or (.int .u8 a) (.int .u8 c) = some (.int .u8 ((a ||| c : Nat) : Int)) := by
  rw [binV_or, wrap_u8]
  congr 2
  have : (BitVec.ofInt IntKind.u8.bits (a : Int) ||| BitVec.ofInt IntKind.u8.bits (c : Int)).toNat = a ||| c := by
    rw [BitVec.toNat_or]
    simp only [BitVec.toNat_ofInt, IntKind.bits]
    have e1 : ((a : Int) % ((2 ^ 8 : Nat) : Int)).toNat = a := by
      rw [show ((2 ^ 8 : Nat) : Int) = 256 by decide]; omega
    have e2 : ((c : Int) % ((2 ^ 8 : Nat) : Int)).toNat = c := by
      rw [show ((2 ^ 8 : Nat) : Int) = 256 by decide]; omega
    rw [e1, e2]
  rw [this]
  have := Nat.or_lt_two_pow (n := 8) (x := a) (y := c) ha hc
  omega
theorem shl8 (b : Bool) (s : Nat) (hs : s ≤ 7) : binV .shl (.int .u8 (b.toNat : Nat)) (.int .i64 (s : Nat)) = some (.int .u8 ((b.toNat <<< s : Nat) : Int)) := by
  rw [binV_shl _ _ _ _ (by omega), wrap_u8]
  congr 2
  have h0 : min ((s : Int)).toNat IntKind.u8.bits = s := by simp [IntKind.bits]; omega
  rw [h0, Nat.shiftLeft_eq]
  have h1 : 2 ^ s ≤ 2 ^ 7 := Nat.pow_le_pow_right (by omega) hs
  have h2 : b.toNat ≤ 1 := by cases b <;> simp
  have h3 : b.toNat * 2 ^ s ≤ 1 * 2 ^ 7 := Nat.mul_le_mul h2 h1
  have : (((b.toNat * 2 ^ s : Nat)) : Int) = (b.toNat : Int) * 2 ^ s := by push_cast; rfl
  rw [← this]; omega
theorem testBit_mod (n i : Nat) : n / 2 ^ i % 2 = (n.testBit i).toNat := by
  rw [Nat.testBit_eq_decide_div_mod_eq]
  rcases Nat.mod_two_eq_zero_or_one (n / 2 ^ i) with h | h <;> simp [h]

end Go.Proofs.Ytejcabdejoameaa.AI

/- The writer's memory, and a field's bits laid into it. -/
set_option linter.unusedSimpArgs false
namespace Go.Proofs.Ytejcabdejoameaa.AI
open Go

theorem AW_seq_mid {tbl : Nat → Option AFn} {a b : ACode} {e : Env} {H : Heap} {Q : AExit → Env → Heap → Prop} (M : Env → Heap → Prop) (h1 : AW tbl a e H (Then M Q)) (h2 : ∀ e H, M e H → AW tbl b e H Q) : AW tbl (.seq a b) e H Q := by
  rw [AW_seq]
  refine h1.mono fun x e H hx => ?_
  cases x with
  | normal => exact h2 e H hx
  | ret => exact hx
  | exit i => exact hx

/-- Memory but for some blocks is as it was; new blocks may have come. -/
def Frm (O : List Nat) (H H' : Heap) : Prop := H.length ≤ H'.length ∧ ∀ i, i < H.length → i ∉ O → hget H' i = hget H i
theorem Frm.refl (O : List Nat) (H : Heap) : Frm O H H := ⟨Nat.le_refl _, fun _ _ _ => rfl⟩
theorem Frm.mono {O O' : List Nat} {H H' : Heap} (h : Frm O H H') (hs : ∀ i ∈ O, i ∈ O') : Frm O' H H' := ⟨h.1, fun i hi hn => h.2 i hi fun hm => hn (hs i hm)⟩
/-- Two steps: what the second writes was the first's, or is new. -/
theorem Frm.trans {O O' : List Nat} {H H1 H2 : Heap} (h : Frm O H H1) (k : Frm O' H1 H2) (hs : ∀ i ∈ O', i ∈ O ∨ H.length ≤ i) : Frm O H H2 := by
  refine ⟨Nat.le_trans h.1 k.1, fun i hi hn => ?_⟩
  rw [k.2 i (Nat.lt_of_lt_of_le hi h.1) (fun hm => ?_), h.2 i hi hn]
  rcases hs i hm with h1 | h1
  · exact hn h1
  · omega
theorem Frm.set {O : List Nat} {H H' : Heap} (h : Frm O H H') {i : Nat} (x : Option Blk) (hi : i ∈ O ∨ H.length ≤ i) : Frm O H (H'.set i x) := by
  refine ⟨by simpa using h.1, fun j hj hn => ?_⟩
  rw [yeo (fun e => by subst e; rcases hi with hi | hi; exact hn hi; omega)]
  exact h.2 j hj hn
theorem Frm.push {O : List Nat} {H H' : Heap} (h : Frm O H H') (x : Option Blk) : Frm O H (H' ++ [x]) := by
  refine ⟨by simp; have := h.1; omega, fun j hj hn => ?_⟩
  rw [hget_append_lt (by have := h.1; omega)]
  exact h.2 j hj hn

theorem hget_app {H : Heap} {x : Option Blk} {i : Nat} : hget (H ++ [x]) i = if i < H.length then hget H i else if i = H.length then x else none := by
  split
  · exact hget_append_lt ‹_›
  · split
    · rename_i h; subst h; simp [hget]
    · unfold hget; rw [List.getElem?_eq_none (by simp; omega)]; rfl

theorem ycs (k : IntKind) (n : Int) : (Value.int k n).cells.size = 1 := rfl
theorem yct (a : Option Addr) (n c : Nat) : (Value.slice a n c).cells.size = 1 := rfl
theorem ycu (s : ByteArray) : (Value.string s).cells.size = 1 := rfl
theorem ycv (b : Bool) : (Value.bool b).cells.size = 1 := rfl
theorem ycw (k : IntKind) (n : Int) : (Value.int k n).cells.toList = [.int k n] := rfl
theorem ycx (a : Option Addr) (n c : Nat) : (Value.slice a n c).cells.toList = [.slice a n c] := rfl
theorem ycy (s : ByteArray) : (Value.string s).cells.toList = [.string s] := rfl
theorem ycz (b : Bool) : (Value.bool b).cells.toList = [.bool b] := rfl

theorem take1 (x : Value) : List.take 1 [x] = [x] := rfl
theorem yem {H : Heap} {x : Option Blk} {i : Nat} (h : i < H.length) : hget (H ++ [x]) i = hget H i := hget_append_lt h

def u8s (d : List Nat) : List Value := d.map fun (x : Nat) => Value.int .u8 (x : Int)
theorem u8s_length (d : List Nat) : (u8s d).length = d.length := by simp [u8s]
theorem u8s_get (d : List Nat) (i : Nat) : (u8s d)[i]? = (d[i]?).map fun (x : Nat) => Value.int .u8 (x : Int) := by simp [u8s]
theorem u8s_set (d : List Nat) (i x : Nat) : (u8s d).set i (.int .u8 (x : Int)) = u8s (d.set i x) := by simp [u8s, List.map_set]
theorem u8s_append (a b : List Nat) : u8s a ++ u8s b = u8s (a ++ b) := by simp [u8s]

/-- The slice of a writer's bytes. -/
def sliceOf (o : Option Nat) (d : List Nat) : Value := match o with
  | none => .slice none 0 0
  | some q => .slice (some ⟨q, 0, none⟩) d.length 1

/-- A writer's memory: its own block and its bytes' block. -/
structure WRaw (H : Heap) (p : Nat) (o : Option Nat) (d : List Nat) (n : Nat) (err : Int) : Prop where
  blk : hget H p = some ⟨true, [sliceOf o d, .int .i64 (n : Int), .int .i64 err]⟩
  nil : o = none → d = []
  dat : ∀ q, o = some q → q ≠ p ∧ hget H q = some ⟨true, u8s d⟩

structure WSt (H : Heap) (p : Nat) (o : Option Nat) (bs : List Bool) (err : Int) : Prop where
  ex : ∃ d, WRaw H p o d bs.length err ∧ Bits d bs ∧ d.length = (bs.length + 7) / 8

theorem WRaw.frame {H H' : Heap} {p : Nat} {o : Option Nat} {d : List Nat} {n : Nat} {err : Int} (h : WRaw H p o d n err) {O : List Nat} (f : Frm O H H') (hp : p ∉ O) (ho : ∀ q, o = some q → q ∉ O) : WRaw H' p o d n err := by
  refine ⟨?_, h.nil, fun q hq => ⟨(h.dat q hq).1, ?_⟩⟩
  · rw [f.2 p (hget_lt h.blk) hp]; exact h.blk
  · rw [f.2 q (hget_lt (h.dat q hq).2) (ho q hq)]; exact (h.dat q hq).2
theorem WSt.frame {H H' : Heap} {p : Nat} {o : Option Nat} {bs : List Bool} {err : Int} (h : WSt H p o bs err) {O : List Nat} (f : Frm O H H') (hp : p ∉ O) (ho : ∀ q, o = some q → q ∉ O) : WSt H' p o bs err := by
  obtain ⟨d, h1, h2⟩ := h.ex
  exact ⟨d, h1.frame f hp ho, h2⟩

theorem rem8 (n : Nat) : binV .rem (.int .i64 (n : Int)) (.int .i64 8) = some (.int .i64 ((n % 8 : Nat) : Int)) := by
  rw [binV_rem _ _ _ (by omega)]; rfl
theorem quo8 (n : Nat) (h : n < 9223372036854775808) : binV .quo (.int .i64 (n : Int)) (.int .i64 8) = some (.int .i64 ((n / 8 : Nat) : Int)) := by
  rw [binV_quo _ _ _ (by omega), show ((n : Int)).tdiv 8 = ((n / 8 : Nat) : Int) from rfl, wrap_i64 (by omega) (by omega)]
theorem sub7 (n : Nat) (h : n ≤ 7) : IntKind.i64.wrap (7 - (n : Int)) = ((7 - n : Nat) : Int) := by
  rw [wrap_i64 (by omega) (by omega)]; omega
theorem shrN (a s : Nat) (hs : s ≤ 64) : binV .shr (.int .u64 a) (.int .i64 s) = some (.int .u64 ((a / 2 ^ s : Nat) : Int)) := by
  rw [binV_shr _ _ _ _ (by omega), shr_nat .u64 a s hs]
theorem wrap_bit (b : Bool) : IntKind.u8.wrap ((b.toNat : Nat) : Int) = ((b.toNat : Nat) : Int) := by cases b <;> rfl

theorem lt_bytes {d : List Nat} {n : Nat} (h : d.length = n + 1) : ∃ x, d[n]? = some x := ⟨d[n]'(by omega), List.getElem?_eq_getElem (by omega)⟩

/-- One bit more. -/
theorem put_one {H : Heap} {p : Nat} {o : Option Nat} {bs : List Bool} {err : Int} {n k : Nat} (hn : n < 18446744073709551616) (hk : k < 64) (hlen : bs.length < 600000) (h : WSt H p o bs err) (Q : AExit → Env → Heap → Prop) {e : Env} (he0 : lk e 0 = some (.pointer (some ⟨p, 0, none⟩))) (he2 : lk e 2 = some (.int .u64 n)) (he6 : lk e 6 = some (.int .i64 k))
    (hq : ∀ H' o', WSt H' p o' (bs ++ [n.testBit k]) err → Frm (p :: o.toList) H H' → (∀ q, o' = some q → o = some q ∨ H.length ≤ q) → Q .normal [(0, .pointer (some ⟨p, 0, none⟩)), (2, .int .u64 n), (6, .int .i64 k)] H')
    {body : ACode} (hbody : F56.body = .seq (.reg [⟨(some 7), none, .mov (.t 1)⟩,
  ⟨(some 8), none, .bin .sub (.t 7) (.c (.int .i64 1))⟩,
  ⟨(some 6), none, .mov (.t 8)⟩] [0, 2, 6]) (.block 0 (.loop (.seq (.seq (.reg [⟨(some 9), none, .mov (.t 6)⟩,
    ⟨(some 10), none, .bin .geq (.t 9) (.c (.int .i64 0))⟩] [0, 2, 6, 10])
   (.cond (.t 10)
    .skip
    (.exit 0)))
   (.seq (.block 1 body)
   (.reg [⟨(some 11), none, .mov (.t 6)⟩,
    ⟨(some 12), none, .bin .sub (.t 11) (.c (.int .i64 1))⟩,
    ⟨(some 6), none, .mov (.t 12)⟩] [0, 2, 6])))))) :
    AW tbl body e H Q := by
  simp only [F56, ACode.seq.injEq, ACode.block.injEq, ACode.loop.injEq, true_and, and_true] at hbody
  subst hbody
  obtain ⟨d, hw, hb, hd⟩ := h.ex
  apply AW_seq_mid (fun e H2 => (lk e 0 = some (.pointer (some ⟨p, 0, none⟩)) ∧ lk e 2 = some (.int .u64 n) ∧ lk e 6 = some (.int .i64 k)) ∧ ∃ o2 d2, WRaw H2 p o2 d2 bs.length err ∧ Bits d2 bs ∧ d2.length = bs.length / 8 + 1 ∧ Frm (p :: o.toList) H H2 ∧ (∀ q, o2 = some q → o = some q ∨ H.length ≤ q))
  · have hp := hw.blk
    have hpl := hget_lt hp
    by_cases hr : ((bs.length % 8 : Nat) : Int) = 0
    · have hd8 : d.length = bs.length / 8 := by omega
      cases o with
      | none =>
        obtain rfl := hw.nil rfl
        have hpl1 : p < H.length + 1 := by omega
        simp only [↓yaa, ↓yab, ↓yac, ↓yad, ↓yae, ↓yaf, ↓yag, ↓yah, ↓yai, ↓yaj, ↓yak, ↓yal, ↓yam, ↓yan, ↓yao, ↓yap, ↓yaq, ↓yar, ↓yas, ↓yat, ↓yau, ↓yav, ↓yaw, ↓yax, yay, yaz, yba, ybb, ybc, ybd, ybe, ybf, ybg, ybh, ybi, ybj, ybk, ybl, ybm, ybn, ybo, ybp, ybq, ybr, ybs, ybt, ybu, ybv, ares, tup, ybw, ybx, yby, argsE, dval, aop, ev, evs, evo, evp, fillL, addrOf, intOf?, ybz, yca, ycb, ycc, ycd, yce, ycf, zah, zag, reduceIte, Nat.reduceEqDiff, ycg, ych, yci, ycj, yck, ycl, ycm, ycn, yco, ycp, ycq, ycr, zap, zao, reduceCtorEq, zbb, zbc, zba, zaz, Nat.reduceAdd, Nat.reduceMul, zaq, zar, eqPtr, zae, zaf, zab, zaa, zac, zad , hload, hstore, zal, zam, Nat.reduceAdd, Nat.reduceLeDiff, zbb, zas, zat, one, zau, zaw, zav, splice, zaj, zak, zab, zaa, ycs, yct, ycu, ycv, ycw, ycx, ycy, ycz, zan, zai, zax, zay, and_self, true_and, and_true, lenV, yda, Nat.le_refl, if_true , he0, he2, he6, hp, rem8, hr, sliceOf, ydu, List.drop_zero, take1, yem, hpl, hpl1]
        refine ⟨some (H.length + 1), [0], ⟨?_, fun h => by simp at h, fun q hq => ?_⟩, Bits.zero hb (by have hz := hd; rw [zam] at hz ⊢; omega), ?_, ?_, fun q hq => ?_⟩
        · rw [yen (by simp; omega)]; rfl
        · injection hq with hq
          subst hq
          refine ⟨by omega, ?_⟩
          rw [yeo (by omega), hget_app]
          simp; rfl
        · have hz := hd; rw [zam] at hz; simp; omega
        · exact (((Frm.refl _ _).push _).push _).set _ (by simp)
        · injection hq with hq; right; omega
      | some q =>
        obtain ⟨hqp, hq2⟩ := hw.dat q rfl
        have hql := hget_lt hq2
        have hpl1 : p < H.length + 1 := by omega
        have hql1 : q < H.length + 1 := by omega
        have hcap : d.length * 1 = (u8s d).length ∧ (d.length + 1) * 1 ≤ 1000000000 := by rw [u8s_length]; omega
        simp only [↓yaa, ↓yab, ↓yac, ↓yad, ↓yae, ↓yaf, ↓yag, ↓yah, ↓yai, ↓yaj, ↓yak, ↓yal, ↓yam, ↓yan, ↓yao, ↓yap, ↓yaq, ↓yar, ↓yas, ↓yat, ↓yau, ↓yav, ↓yaw, ↓yax, yay, yaz, yba, ybb, ybc, ybd, ybe, ybf, ybg, ybh, ybi, ybj, ybk, ybl, ybm, ybn, ybo, ybp, ybq, ybr, ybs, ybt, ybu, ybv, ares, tup, ybw, ybx, yby, argsE, dval, aop, ev, evs, evo, evp, fillL, addrOf, intOf?, ybz, yca, ycb, ycc, ycd, yce, ycf, zah, zag, reduceIte, Nat.reduceEqDiff, ycg, ych, yci, ycj, yck, ycl, ycm, ycn, yco, ycp, ycq, ycr, zap, zao, reduceCtorEq, zbb, zbc, zba, zaz, Nat.reduceAdd, Nat.reduceMul, zaq, zar, eqPtr, zae, zaf, zab, zaa, zac, zad , hload, hstore, zal, zam, Nat.reduceAdd, Nat.reduceLeDiff, zbb, zas, zat, one, zau, zaw, zav, splice, zaj, zak, zab, zaa, ycs, yct, ycu, ycv, ycw, ycx, ycy, ycz, zan, zai, zax, zay, and_self, true_and, and_true, lenV, yda, Nat.le_refl, if_true , he0, he2, he6, hp, rem8, hr, sliceOf, ydu, List.drop_zero, take1, yem, hpl, hpl1, hql, hq2, hcap, yeo hqp]
        refine ⟨some (H.length + 1), d ++ [0], ⟨?_, fun h => by simp at h, fun q hq => ?_⟩, Bits.zero hb (by omega), ?_, ?_, fun q hq => ?_⟩
        · rw [yen (by simp; omega)]; simp [sliceOf]
        · injection hq with hq
          subst hq
          refine ⟨by omega, ?_⟩
          rw [yeo (by omega), hget_app]
          simp [u8s]
        · simp; omega
        · exact ((((Frm.refl _ _).push _).set _ (by simp)).push _).set _ (by simp)
        · injection hq with hq; right; omega
    · simp only [↓yaa, ↓yab, ↓yac, ↓yad, ↓yae, ↓yaf, ↓yag, ↓yah, ↓yai, ↓yaj, ↓yak, ↓yal, ↓yam, ↓yan, ↓yao, ↓yap, ↓yaq, ↓yar, ↓yas, ↓yat, ↓yau, ↓yav, ↓yaw, ↓yax, yay, yaz, yba, ybb, ybc, ybd, ybe, ybf, ybg, ybh, ybi, ybj, ybk, ybl, ybm, ybn, ybo, ybp, ybq, ybr, ybs, ybt, ybu, ybv, ares, tup, ybw, ybx, yby, argsE, dval, aop, ev, evs, evo, evp, fillL, addrOf, intOf?, ybz, yca, ycb, ycc, ycd, yce, ycf, zah, zag, reduceIte, Nat.reduceEqDiff, ycg, ych, yci, ycj, yck, ycl, ycm, ycn, yco, ycp, ycq, ycr, zap, zao, reduceCtorEq, zbb, zbc, zba, zaz, Nat.reduceAdd, Nat.reduceMul, zaq, zar, eqPtr, zae, zaf, zab, zaa, zac, zad , hload, hstore, zal, zam, Nat.reduceAdd, Nat.reduceLeDiff, zbb, zas, zat, one, zau, zaw, zav, splice, zaj, zak, zab, zaa, ycs, yct, ycu, ycv, ycw, ycx, ycy, ycz, zan, zai, zax, zay, and_self, true_and, and_true, lenV, yda, Nat.le_refl, if_true , he0, he2, he6, hp, rem8, hr]
      exact ⟨o, d, hw, hb, by omega, Frm.refl _ _, fun q hq => .inl hq⟩
  · rintro e H2 ⟨⟨e0, e2, e6⟩, o2, d2, hw2, hb2, hd2, hf, hfr⟩
    have hp := hw2.blk
    have hpl := hget_lt hp
    obtain ⟨x, hx⟩ := lt_bytes hd2
    cases o2 with
    | none => rw [hw2.nil rfl] at hd2; simp at hd2
    | some q =>
      obtain ⟨hqp, hq2⟩ := hw2.dat q rfl
      have hql := hget_lt hq2
      have hj : bs.length / 8 + 1 ≤ d2.length := by omega
      have hidx : (0 : Int) ≤ ((bs.length / 8 : Nat) : Int) ∧ ((bs.length / 8 : Nat) : Int) < (d2.length : Int) := by omega
      have hxs : x < 256 := hb2.small x (List.mem_of_getElem? hx)
      have hn2 : n / 2 ^ k < 18446744073709551616 := Nat.lt_of_le_of_lt (Nat.div_le_self _ _) hn
      have hs7 : 7 - bs.length % 8 ≤ 7 := by omega
      have hb8 : (n.testBit k).toNat <<< (7 - bs.length % 8) < 256 := by
        rw [Nat.shiftLeft_eq]
        have h1 : 2 ^ (7 - bs.length % 8) ≤ 2 ^ 7 := Nat.pow_le_pow_right (by omega) (by omega)
        have h2 : (n.testBit k).toNat ≤ 1 := by cases n.testBit k <;> simp
        calc (n.testBit k).toNat * 2 ^ (7 - bs.length % 8) ≤ 1 * 2 ^ 7 := Nat.mul_le_mul h2 h1
          _ < 256 := by decide
      have hw1 : IntKind.i64.wrap ((bs.length : Int) + 1) = ((bs.length + 1 : Nat) : Int) := by rw [wrap_i64 (by omega) (by omega)]; rfl
      have hg : (u8s d2)[bs.length / 8]? = some (Value.int .u8 (x : Int)) := by rw [u8s_get, hx]; rfl
      simp only [↓yaa, ↓yab, ↓yac, ↓yad, ↓yae, ↓yaf, ↓yag, ↓yah, ↓yai, ↓yaj, ↓yak, ↓yal, ↓yam, ↓yan, ↓yao, ↓yap, ↓yaq, ↓yar, ↓yas, ↓yat, ↓yau, ↓yav, ↓yaw, ↓yax, yay, yaz, yba, ybb, ybc, ybd, ybe, ybf, ybg, ybh, ybi, ybj, ybk, ybl, ybm, ybn, ybo, ybp, ybq, ybr, ybs, ybt, ybu, ybv, ares, tup, ybw, ybx, yby, argsE, dval, aop, ev, evs, evo, evp, fillL, addrOf, intOf?, ybz, yca, ycb, ycc, ycd, yce, ycf, zah, zag, reduceIte, Nat.reduceEqDiff, ycg, ych, yci, ycj, yck, ycl, ycm, ycn, yco, ycp, ycq, ycr, zap, zao, reduceCtorEq, zbb, zbc, zba, zaz, Nat.reduceAdd, Nat.reduceMul, zaq, zar, eqPtr, zae, zaf, zab, zaa, zac, zad , hload, hstore, zal, zam, Nat.reduceAdd, Nat.reduceLeDiff, zbb, zas, zat, one, zau, zaw, zav, splice, zaj, zak, zab, zaa, ycs, yct, ycu, ycv, ycw, ycx, ycy, ycz, zan, zai, zax, zay, and_self, true_and, and_true, lenV, yda, Nat.le_refl, if_true , e0, e2, e6, hp, rem8, sliceOf, quo8 _ (by omega : bs.length < 9223372036854775808), hq2, hidx, Int.toNat_natCast, Nat.mul_one, zaz, hg,
        shrN n k (by omega), and1 _ hn2, testBit_mod, wrap_bit, sub7 _ (by omega : bs.length % 8 ≤ 7), shl8 _ _ hs7, or8 _ _ hxs hb8, u8s_length, hj, u8s_set, yeo hqp, hw1]
      refine hq _ (some q) ⟨d2.set (bs.length / 8) (x ||| (n.testBit k).toNat <<< (7 - bs.length % 8)), ⟨?_, fun h => by simp at h, fun q' hq' => ?_⟩, hb2.put _ rfl hx, ?_⟩ ?_ (fun q' hq' => hfr q' hq')
      · rw [yen (by simpa using hpl)]
        simp [sliceOf]
      · injection hq' with hq'
        subst hq'
        refine ⟨hqp, ?_⟩
        rw [yeo (Ne.symm hqp), yen hql]
      · simp; omega
      · refine ((hf.set _ ?_).set _ (by simp))
        rcases hfr q rfl with h1 | h1
        · left; simp [h1]
        · right; exact h1

/-- A field's bits. -/
theorem put_spec {H : Heap} {p : Nat} {o : Option Nat} {bs : List Bool} {err : Int} {n w : Nat} (hn : n < 18446744073709551616) (hw : w ≤ 64) (hlen : bs.length + w < 600000) (h : WSt H p o bs err) (K : Value → Heap → Prop)
    (hk : ∀ H' o', WSt H' p o' (bs ++ bitsOf w n) err → Frm (p :: o.toList) H H' → (∀ q, o' = some q → o = some q ∨ H.length ≤ q) → K (.tuple #[]) H') :
    Op1 (AC tbl 56 [.pointer (some ⟨p, 0, none⟩), .int .i64 (w : Int), .int .u64 (n : Int)] H) K := by
  apply AC_wp (F := F56) rfl (by simp [F56]) (.inl rfl)
  have hw0 : IntKind.i64.wrap ((w : Int) - 1) = (w : Int) - 1 := wrap_i64 (by omega) (by omega)
  show AW tbl F56.body _ H (Ends [] false _ K)
  unfold F56
  rw [yaa]
  simp only [↓yag, ↓yai, ↓yao, ybl, ybm, ybn, argsE, dval, aop, ev, ybz, yca, ycb, ycc, ycd, yce, ycf, zah, zag, reduceIte, Nat.reduceEqDiff, ycn, hw0, zaz, Nat.reduceAdd, ybk, ↓yae]
  apply AW_loop_inv (fun j e H1 => e = [(0, .pointer (some ⟨p, 0, none⟩)), (2, .int .u64 n), (6, .int .i64 ((j : Int) - 1))] ∧ j ≤ w ∧ ∃ bs1 o1, WSt H1 p o1 bs1 err ∧ bs1 ++ bitsOf j n = bs ++ bitsOf w n ∧ Frm (p :: o.toList) H H1 ∧ (∀ q, o1 = some q → o = some q ∨ H.length ≤ q)) _ w
  · exact ⟨rfl, Nat.le_refl _, bs, o, h, rfl, Frm.refl _ _, fun q hq => .inl hq⟩
  · rintro j e H1 ⟨rfl, hjw, bs1, o1, h1, h2, h3, h4⟩
    have hl : bs1.length + j = bs.length + w := by
      have := congrArg List.length h2
      simpa [bitsOf_length] using this
    cases j with
    | zero =>
      have g0 : ¬ (0 : Int) ≤ ((0 : Nat) : Int) - 1 := by omega
      simp only [↓yaa, ↓yab, ↓yac, ↓yad, ↓yae, ↓yaf, ↓yag, ↓yah, ↓yai, ↓yaj, ↓yak, ↓yal, ↓yam, ↓yan, ↓yao, ↓yap, ↓yaq, ↓yar, ↓yas, ↓yat, ↓yau, ↓yav, ↓yaw, ↓yax, yay, yaz, yba, ybb, ybc, ybd, ybe, ybf, ybg, ybh, ybi, ybj, ybk, ybl, ybm, ybn, ybo, ybp, ybq, ybr, ybs, ybt, ybu, ybv, ares, tup, ybw, ybx, yby, argsE, dval, aop, ev, evs, evo, evp, fillL, addrOf, intOf?, ybz, yca, ycb, ycc, ycd, yce, ycf, zah, zag, reduceIte, Nat.reduceEqDiff, ycg, ych, yci, ycj, yck, ycl, ycm, ycn, yco, ycp, ycq, ycr, zap, zao, reduceCtorEq, zbb, zbc, zba, zaz, Nat.reduceAdd, Nat.reduceMul, zaq, zar, eqPtr, zae, zaf, zab, zaa, zac, zad , g0]
      refine hk _ o1 ?_ h3 h4
      rw [← h2]; simpa [bitsOf] using h1
    | succ j =>
      have g0 : (0 : Int) ≤ ((j + 1 : Nat) : Int) - 1 := by omega
      rw [yaa, yaa]
      simp only [↓yag, ↓yai, ↓yao, ↓yaf, ↓yac, ycr, ybl, ybm, ybn, dval, aop, ev, ybz, yca, ycb, ycc, ycd, yce, ycf, zah, zag, reduceIte, Nat.reduceEqDiff, ycj, ybk, g0, zbb]
      rw [show ((j + 1 : Nat) : Int) - 1 = (j : Int) by omega]
      rw [yaa, yae]
      refine put_one (p := p) (o := o1) (bs := bs1) (err := err) (n := n) (k := j) hn (by omega) (by omega) h1 _ rfl rfl rfl ?_ rfl
      intro H2 o2 k1 k2 k3
      simp only [ybq, ybn, ybk, ↓yag, ↓yai, ↓yao, ybl, ybm, dval, aop, ev, ybz, yca, ycb, ycc, ycd, yce, ycf, zah, zag, reduceIte, Nat.reduceEqDiff, ycn]
      rw [wrap_i64 (by omega) (by omega)]
      refine ⟨j, by omega, rfl, by omega, bs1 ++ [n.testBit j], o2, k1, ?_, h3.trans k2 ?_, fun q hq => ?_⟩
      · rw [← h2]; simp [bitsOf]
      · intro i hi
        rcases List.mem_cons.1 hi with rfl | hi
        · left; simp
        · rcases h4 i (by simpa [Option.mem_toList] using hi) with h5 | h5
          · left; simp [h5]
          · right; exact h5
      · rcases k3 q hq with h5 | h5
        · exact h4 q h5
        · right; have := h3.1; omega

end Go.Proofs.Ytejcabdejoameaa.AI

/- The reader's memory, and bits read from it. -/
set_option linter.unusedSimpArgs false
namespace Go.Proofs.Ytejcabdejoameaa.AI
open Go

structure RS where
  s : ByteArray
  at_ : Nat
  err : Int
def RS.cells (r : RS) : List Value := [.string r.s, .int .i64 (r.at_ : Int), .int .i64 r.err]
def RSt (H : Heap) (p : Nat) (r : RS) : Prop := hget H p = some ⟨true, r.cells⟩
def setR (H : Heap) (p : Nat) (r : RS) : Heap := H.set p (some ⟨true, r.cells⟩)
theorem RSt.lt {H : Heap} {p : Nat} {r : RS} (h : RSt H p r) : p < H.length := hget_lt h
theorem setR_length (H : Heap) (p : Nat) (r : RS) : (setR H p r).length = H.length := by simp [setR]
theorem setR_st {H : Heap} {p : Nat} (h : p < H.length) (r : RS) : RSt (setR H p r) p r := yen h
theorem setR_setR (H : Heap) (p : Nat) (r r' : RS) : setR (setR H p r) p r' = setR H p r' := by simp [setR, List.set_set]
theorem setR_same {H : Heap} {p : Nat} {r : RS} (h : RSt H p r) : setR H p r = H := by
  unfold setR
  unfold RSt hget at h
  cases hp : H[p]? with
  | none => rw [hp] at h; simp at h
  | some x =>
    rw [hp] at h
    simp at h
    subst h
    obtain ⟨hl, he⟩ := List.getElem?_eq_some_iff.1 hp
    rw [← he]; simp
theorem setR_frm (H : Heap) (p : Nat) (r : RS) : Frm [p] H (setR H p r) := (Frm.refl _ _).set _ (by simp)
theorem hget_setR_ne {H : Heap} {p i : Nat} {r : RS} (h : i ≠ p) : hget (setR H p r) i = hget H i := yeo (Ne.symm h)

/-- A string's bit. -/
def sbit (s : ByteArray) (i : Nat) : Bool := (((s[i / 8]?).map UInt8.toNat).getD 0).testBit (7 - i % 8)
/-- The number that some bits make, the first the highest. -/
def valOf (s : ByteArray) (a : Nat) : Nat → Nat
  | 0 => 0
  | w + 1 => 2 * valOf s a w + (sbit s (a + w)).toNat
theorem valOf_lt (s : ByteArray) (a w : Nat) : valOf s a w < 2 ^ w := by
  induction w with
  | zero => simp [valOf]
  | succ w ih =>
    have : (sbit s (a + w)).toNat ≤ 1 := by cases sbit s (a + w) <;> simp
    rw [valOf, Nat.pow_succ]; omega

theorem shl64_1 (n : Nat) (h : 2 * n < 18446744073709551616) : binV .shl (.int .u64 (n : Int)) (.int .u64 1) = some (.int .u64 ((2 * n : Nat) : Int)) := by
  rw [binV_shl _ _ _ _ (by omega), wrap_u64 (by have : (2 : Int) ^ min (Int.toNat 1) IntKind.u64.bits = 2 := by rfl
                                                rw [this]; omega) (by have : (2 : Int) ^ min (Int.toNat 1) IntKind.u64.bits = 2 := by rfl
                                                                      rw [this]; omega)]
  have : (2 : Int) ^ min (Int.toNat 1) IntKind.u64.bits = 2 := by rfl
  rw [this]; congr 2; omega
theorem shr8 (a s : Nat) (hs : s ≤ 7) : binV .shr (.int .u8 (a : Int)) (.int .i64 (s : Int)) = some (.int .u8 ((a / 2 ^ s : Nat) : Int)) := by
  rw [binV_shr _ _ _ _ (by omega), shr_nat .u8 a s (by simp [IntKind.bits]; omega)]
theorem and8_1 (a : Nat) (h : a < 256) : binV .and (.int .u8 (a : Int)) (.int .u8 1) = some (.int .u8 ((a % 2 : Nat) : Int)) := by
  rw [binV_and, wrap_u8]
  congr 2
  have : (BitVec.ofInt IntKind.u8.bits (a : Int) &&& BitVec.ofInt IntKind.u8.bits 1).toNat = a % 2 := by
    rw [BitVec.toNat_and]
    simp only [BitVec.toNat_ofInt, IntKind.bits]
    have : ((a : Int) % ((2 ^ 8 : Nat) : Int)).toNat = a := by
      rw [show ((2 ^ 8 : Nat) : Int) = 256 by decide]; omega
    rw [this, show ((1 : Int) % ((2 ^ 8 : Nat) : Int)).toNat = 1 by decide, Nat.and_one_is_mod]
  rw [this]; omega
theorem or64 (n : Nat) (b : Bool) (h : 2 * n < 18446744073709551615) : binV .or (.int .u64 ((2 * n : Nat) : Int)) (.int .u64 (b.toNat : Int)) = some (.int .u64 ((2 * n + b.toNat : Nat) : Int)) := by
  have hb : b.toNat ≤ 1 := by cases b <;> simp
  rw [binV_or, wrap_u64_eq]
  congr 2
  have : (BitVec.ofInt IntKind.u64.bits ((2 * n : Nat) : Int) ||| BitVec.ofInt IntKind.u64.bits (b.toNat : Int)).toNat = 2 * n + b.toNat := by
    rw [BitVec.toNat_or]
    simp only [BitVec.toNat_ofInt, IntKind.bits]
    have e1 : (((2 * n : Nat) : Int) % ((2 ^ 64 : Nat) : Int)).toNat = 2 * n := by
      rw [show ((2 ^ 64 : Nat) : Int) = 18446744073709551616 by decide]; omega
    have e2 : ((b.toNat : Int) % ((2 ^ 64 : Nat) : Int)).toNat = b.toNat := by
      rw [show ((2 ^ 64 : Nat) : Int) = 18446744073709551616 by decide]; omega
    rw [e1, e2]
    have := Nat.two_pow_add_eq_or_of_lt (i := 1) (b := b.toNat) (by omega) n
    simpa using this.symm
  rw [this]; omega
theorem wrap_bit64 (b : Bool) : IntKind.u64.wrap ((b.toNat : Nat) : Int) = ((b.toNat : Nat) : Int) := by cases b <;> rfl
theorem str_get (t : ByteArray) (i : Nat) (h : i < t.size) : ∃ b : UInt8, t[i]? = some b := ⟨t[i], getElem?_pos t i h⟩

/-- Some bits are read. -/
theorem get_spec {H : Heap} {p : Nat} {r : RS} {w : Nat} (h : RSt H p r) (hw : w ≤ 63) (ha : r.at_ + w ≤ 8 * r.s.size) (hs : r.s.size ≤ 1000000) :
    AC tbl 48 [.pointer (some ⟨p, 0, none⟩), .int .i64 (w : Int)] H = some (.int .u64 (valOf r.s r.at_ w : Nat), setR H p { r with at_ := r.at_ + w }) := by
  apply AC_eq
  apply AC_wp (F := F48) rfl (by simp [F48]) (.inl rfl)
  have hpl := h.lt
  simp only [F48, ↓yaa, ↓yab, ↓yac, ↓yad, ↓yae, ↓yaf, ↓yag, ↓yah, ↓yai, ↓yaj, ↓yak, ↓yal, ↓yam, ↓yan, ↓yao, ↓yap, ↓yaq, ↓yar, ↓yas, ↓yat, ↓yau, ↓yav, ↓yaw, ↓yax, yay, yaz, yba, ybb, ybc, ybd, ybe, ybf, ybg, ybh, ybi, ybj, ybk, ybl, ybm, ybn, ybo, ybp, ybq, ybr, ybs, ybt, ybu, ybv, ares, tup, ybw, ybx, yby, argsE, dval, aop, ev, evs, evo, evp, fillL, addrOf, intOf?, ybz, yca, ycb, ycc, ycd, yce, ycf, zah, zag, reduceIte, Nat.reduceEqDiff, ycg, ych, yci, ycj, yck, ycl, ycm, ycn, yco, ycp, ycq, ycr, zap, zao, reduceCtorEq, zbb, zbc, zba, zaz, Nat.reduceAdd, Nat.reduceMul, zaq, zar, eqPtr, zae, zaf, zab, zaa, zac, zad ]
  apply AW_loop_inv (fun j e H1 => j ≤ w ∧ e = [(0, .pointer (some ⟨p, 0, none⟩)), (5, .int .u64 (valOf r.s r.at_ (w - j) : Nat)), (6, .int .i64 (w : Int)), (7, .int .i64 ((w - j : Nat) : Int))] ∧ H1 = setR H p { r with at_ := r.at_ + (w - j) }) _ w
  · refine ⟨Nat.le_refl _, by rw [Nat.sub_self]; rfl, ?_⟩
    rw [Nat.sub_self]; exact (setR_same h).symm
  · rintro j e H1 ⟨hj, rfl, rfl⟩
    cases j with
    | zero =>
      have g0 : ¬ (w : Int) < (w : Int) := by omega
      simp only [↓yaa, ↓yab, ↓yac, ↓yad, ↓yae, ↓yaf, ↓yag, ↓yah, ↓yai, ↓yaj, ↓yak, ↓yal, ↓yam, ↓yan, ↓yao, ↓yap, ↓yaq, ↓yar, ↓yas, ↓yat, ↓yau, ↓yav, ↓yaw, ↓yax, yay, yaz, yba, ybb, ybc, ybd, ybe, ybf, ybg, ybh, ybi, ybj, ybk, ybl, ybm, ybn, ybo, ybp, ybq, ybr, ybs, ybt, ybu, ybv, ares, tup, ybw, ybx, yby, argsE, dval, aop, ev, evs, evo, evp, fillL, addrOf, intOf?, ybz, yca, ycb, ycc, ycd, yce, ycf, zah, zag, reduceIte, Nat.reduceEqDiff, ycg, ych, yci, ycj, yck, ycl, ycm, ycn, yco, ycp, ycq, ycr, zap, zao, reduceCtorEq, zbb, zbc, zba, zaz, Nat.reduceAdd, Nat.reduceMul, zaq, zar, eqPtr, zae, zaf, zab, zaa, zac, zad , g0, Nat.sub_zero, and_self]
    | succ j =>
      have g0 : ((w - (j + 1) : Nat) : Int) < (w : Int) := by omega
      have hst : hget (setR H p { r with at_ := r.at_ + (w - (j + 1)) }) p = some ⟨true, [.string r.s, .int .i64 ((r.at_ + (w - (j + 1)) : Nat) : Int), .int .i64 r.err]⟩ := setR_st hpl _
      have hv := valOf_lt r.s r.at_ (w - (j + 1))
      have hv2 : 2 ^ (w - (j + 1)) ≤ 2 ^ 62 := Nat.pow_le_pow_right (by omega) (by omega)
      have hv3 : 2 * valOf r.s r.at_ (w - (j + 1)) < 9223372036854775808 := by
        have : (2 : Nat) ^ 62 = 4611686018427387904 := by decide
        omega
      obtain ⟨b, hb⟩ := str_get r.s ((r.at_ + (w - (j + 1))) / 8) (by omega)
      have hb8 : b.toNat < 256 := b.toNat_lt
      have hbit : b.toNat / 2 ^ (7 - (r.at_ + (w - (j + 1))) % 8) % 2 = (sbit r.s (r.at_ + (w - (j + 1)))).toNat := by
        rw [testBit_mod]; unfold sbit; rw [hb]; rfl
      have hdiv : b.toNat / 2 ^ (7 - (r.at_ + (w - (j + 1))) % 8) < 256 := Nat.lt_of_le_of_lt (Nat.div_le_self _ _) hb8
      have g1 : (0 : Int) ≤ (((r.at_ + (w - (j + 1))) / 8 : Nat) : Int) := by omega
      have g2 : IntKind.i64.wrap (((r.at_ + (w - (j + 1)) : Nat) : Int) + 1) = ((r.at_ + (w - j) : Nat) : Int) := by rw [wrap_i64 (by omega) (by omega)]; omega
      have g3 : IntKind.i64.wrap (((w - (j + 1) : Nat) : Int) + 1) = ((w - j : Nat) : Int) := by rw [wrap_i64 (by omega) (by omega)]; omega
      simp only [↓yaa, ↓yab, ↓yac, ↓yad, ↓yae, ↓yaf, ↓yag, ↓yah, ↓yai, ↓yaj, ↓yak, ↓yal, ↓yam, ↓yan, ↓yao, ↓yap, ↓yaq, ↓yar, ↓yas, ↓yat, ↓yau, ↓yav, ↓yaw, ↓yax, yay, yaz, yba, ybb, ybc, ybd, ybe, ybf, ybg, ybh, ybi, ybj, ybk, ybl, ybm, ybn, ybo, ybp, ybq, ybr, ybs, ybt, ybu, ybv, ares, tup, ybw, ybx, yby, argsE, dval, aop, ev, evs, evo, evp, fillL, addrOf, intOf?, ybz, yca, ycb, ycc, ycd, yce, ycf, zah, zag, reduceIte, Nat.reduceEqDiff, ycg, ych, yci, ycj, yck, ycl, ycm, ycn, yco, ycp, ycq, ycr, zap, zao, reduceCtorEq, zbb, zbc, zba, zaz, Nat.reduceAdd, Nat.reduceMul, zaq, zar, eqPtr, zae, zaf, zab, zaa, zac, zad , hload, hstore, zal, zam, Nat.reduceAdd, Nat.reduceLeDiff, zbb, zas, zat, one, zau, zaw, zav, splice, zaj, zak, zab, zaa, ycs, yct, ycu, ycv, ycw, ycx, ycy, ycz, zan, zai, zax, zay, and_self, true_and, and_true, lenV, yda, Nat.le_refl, if_true , g0, hst, shl64_1 _ (by omega : 2 * valOf r.s r.at_ (w - (j + 1)) < 18446744073709551616), quo8 _ (by omega : r.at_ + (w - (j + 1)) < 9223372036854775808), rem8, g1, Int.toNat_natCast, hb,
        sub7 _ (by omega : (r.at_ + (w - (j + 1))) % 8 ≤ 7), shr8 _ _ (by omega : 7 - (r.at_ + (w - (j + 1))) % 8 ≤ 7), and8_1 _ hdiv, hbit, wrap_bit64, or64 _ _ (by omega : 2 * valOf r.s r.at_ (w - (j + 1)) < 18446744073709551615), g2, g3]
      refine ⟨j, by omega, by omega, ?_, ?_⟩
      · rw [show w - j = (w - (j + 1)) + 1 by omega, valOf]
      · show List.set (setR H p _) p _ = _
        exact setR_setR H p _ { r with at_ := r.at_ + (w - j) }

end Go.Proofs.Ytejcabdejoameaa.AI

/- The writer's methods. -/
set_option linter.unusedSimpArgs false
namespace Go.Proofs.Ytejcabdejoameaa.AI
open Go

/-- What a writer has: its bits and its error. -/
structure WS where
  bs : List Bool
  err : Int

/-- A number as one of 64 bits. -/
def u64 (n : Int) : Nat := (n % 18446744073709551616).toNat
theorem u64_lt (n : Int) : u64 n < 18446744073709551616 := by unfold u64; omega
theorem wrap_u64_nat (n : Int) : IntKind.u64.wrap n = ((u64 n : Nat) : Int) := by rw [wrap_u64_eq]; unfold u64; omega

def WS.field (s : WS) (right fits : Bool) (w n : Int) : WS :=
  if s.err ≠ 0 then s else if right = false then ⟨s.bs, 1⟩ else if fits = false then ⟨s.bs, 2⟩ else if 524288 < (s.bs.length : Int) + w then ⟨s.bs, 8⟩ else ⟨s.bs ++ bitsOf w.toNat (u64 n), s.err⟩

/-- Behind a writer's method. -/
def Wrote (H : Heap) (p : Nat) (o : Option Nat) (s : WS) (K : Value → Heap → Prop) : Prop :=
  ∀ H' o', WSt H' p o' s.bs s.err → Frm (p :: o.toList) H H' → (∀ q, o' = some q → o = some q ∨ H.length ≤ q) → K (.tuple #[]) H'

theorem WRaw.setErr {H : Heap} {p : Nat} {o : Option Nat} {d : List Nat} {n : Nat} {err : Int} (h : WRaw H p o d n err) (err' : Int) :
    WRaw (H.set p (some ⟨true, [sliceOf o d, .int .i64 (n : Int), .int .i64 err']⟩)) p o d n err' := by
  refine ⟨yen (hget_lt h.blk), h.nil, fun q hq => ⟨(h.dat q hq).1, ?_⟩⟩
  rw [yeo (Ne.symm (h.dat q hq).1)]; exact (h.dat q hq).2

theorem field_spec {H : Heap} {p : Nat} {o : Option Nat} {s : WS} {right fits : Bool} {w n : Int} (h : WSt H p o s.bs s.err) (hlen : s.bs.length ≤ 524288) (hw : right = true → 0 ≤ w ∧ w ≤ 64) {K : Value → Heap → Prop}
    (hk : Wrote H p o (s.field right fits w n) K) : Op1 (AC tbl 50 [.pointer (some ⟨p, 0, none⟩), .bool right, .bool fits, .int .i64 w, .int .i64 n] H) K := by
  apply AC_wp (F := F50) rfl (by simp [F50]) (.inl rfl)
  obtain ⟨d, hr, hb, hd⟩ := h.ex
  have hp := hr.blk
  have hpl := hget_lt hp
  have setE : ∀ err', s.field right fits w n = ⟨s.bs, err'⟩ → K (.tuple #[]) (H.set p (some ⟨true, [sliceOf o d, .int .i64 (s.bs.length : Int), .int .i64 err']⟩)) := fun err' he => by
    refine hk _ o ?_ ((Frm.refl _ _).set _ (by simp)) (fun q hq => .inl hq)
    rw [he]
    exact ⟨d, hr.setErr err', hb, hd⟩
  by_cases h1 : s.err = 0
  · have c1 : decide (s.err ≠ 0) = false := by simp [h1]
    cases right with
    | false =>
      simp only [F50, ↓yaa, ↓yab, ↓yac, ↓yad, ↓yae, ↓yaf, ↓yag, ↓yah, ↓yai, ↓yaj, ↓yak, ↓yal, ↓yam, ↓yan, ↓yao, ↓yap, ↓yaq, ↓yar, ↓yas, ↓yat, ↓yau, ↓yav, ↓yaw, ↓yax, yay, yaz, yba, ybb, ybc, ybd, ybe, ybf, ybg, ybh, ybi, ybj, ybk, ybl, ybm, ybn, ybo, ybp, ybq, ybr, ybs, ybt, ybu, ybv, ares, tup, ybw, ybx, yby, argsE, dval, aop, ev, evs, evo, evp, fillL, addrOf, intOf?, ybz, yca, ycb, ycc, ycd, yce, ycf, zah, zag, reduceIte, Nat.reduceEqDiff, ycg, ych, yci, ycj, yck, ycl, ycm, ycn, yco, ycp, ycq, ycr, zap, zao, reduceCtorEq, zbb, zbc, zba, zaz, Nat.reduceAdd, Nat.reduceMul, zaq, zar, eqPtr, zae, zaf, zab, zaa, zac, zad , hload, hstore, zal, zam, Nat.reduceAdd, Nat.reduceLeDiff, zbb, zas, zat, one, zau, zaw, zav, splice, zaj, zak, zab, zaa, ycs, yct, ycu, ycv, ycw, ycx, ycy, ycz, zan, zai, zax, zay, and_self, true_and, and_true, lenV, yda, Nat.le_refl, if_true , hp, c1]
      exact setE 1 (by simp [WS.field, h1])
    | true =>
      cases fits with
      | false =>
        simp only [F50, ↓yaa, ↓yab, ↓yac, ↓yad, ↓yae, ↓yaf, ↓yag, ↓yah, ↓yai, ↓yaj, ↓yak, ↓yal, ↓yam, ↓yan, ↓yao, ↓yap, ↓yaq, ↓yar, ↓yas, ↓yat, ↓yau, ↓yav, ↓yaw, ↓yax, yay, yaz, yba, ybb, ybc, ybd, ybe, ybf, ybg, ybh, ybi, ybj, ybk, ybl, ybm, ybn, ybo, ybp, ybq, ybr, ybs, ybt, ybu, ybv, ares, tup, ybw, ybx, yby, argsE, dval, aop, ev, evs, evo, evp, fillL, addrOf, intOf?, ybz, yca, ycb, ycc, ycd, yce, ycf, zah, zag, reduceIte, Nat.reduceEqDiff, ycg, ych, yci, ycj, yck, ycl, ycm, ycn, yco, ycp, ycq, ycr, zap, zao, reduceCtorEq, zbb, zbc, zba, zaz, Nat.reduceAdd, Nat.reduceMul, zaq, zar, eqPtr, zae, zaf, zab, zaa, zac, zad , hload, hstore, zal, zam, Nat.reduceAdd, Nat.reduceLeDiff, zbb, zas, zat, one, zau, zaw, zav, splice, zaj, zak, zab, zaa, ycs, yct, ycu, ycv, ycw, ycx, ycy, ycz, zan, zai, zax, zay, and_self, true_and, and_true, lenV, yda, Nat.le_refl, if_true , hp, c1]
        exact setE 2 (by simp [WS.field, h1])
      | true =>
        obtain ⟨hw0, hw1⟩ := hw rfl
        have hwr : IntKind.i64.wrap ((s.bs.length : Int) + w) = (s.bs.length : Int) + w := wrap_i64 (by omega) (by omega)
        by_cases h2 : 524288 < (s.bs.length : Int) + w
        · simp only [F50, ↓yaa, ↓yab, ↓yac, ↓yad, ↓yae, ↓yaf, ↓yag, ↓yah, ↓yai, ↓yaj, ↓yak, ↓yal, ↓yam, ↓yan, ↓yao, ↓yap, ↓yaq, ↓yar, ↓yas, ↓yat, ↓yau, ↓yav, ↓yaw, ↓yax, yay, yaz, yba, ybb, ybc, ybd, ybe, ybf, ybg, ybh, ybi, ybj, ybk, ybl, ybm, ybn, ybo, ybp, ybq, ybr, ybs, ybt, ybu, ybv, ares, tup, ybw, ybx, yby, argsE, dval, aop, ev, evs, evo, evp, fillL, addrOf, intOf?, ybz, yca, ycb, ycc, ycd, yce, ycf, zah, zag, reduceIte, Nat.reduceEqDiff, ycg, ych, yci, ycj, yck, ycl, ycm, ycn, yco, ycp, ycq, ycr, zap, zao, reduceCtorEq, zbb, zbc, zba, zaz, Nat.reduceAdd, Nat.reduceMul, zaq, zar, eqPtr, zae, zaf, zab, zaa, zac, zad , hload, hstore, zal, zam, Nat.reduceAdd, Nat.reduceLeDiff, zbb, zas, zat, one, zau, zaw, zav, splice, zaj, zak, zab, zaa, ycs, yct, ycu, ycv, ycw, ycx, ycy, ycz, zan, zai, zax, zay, and_self, true_and, and_true, lenV, yda, Nat.le_refl, if_true , hp, c1, hwr, h2]
          exact setE 8 (by simp [WS.field, h1, h2])
        · obtain ⟨m, rfl⟩ : ∃ m : Nat, w = m := ⟨w.toNat, by omega⟩
          simp only [F50, ↓yaa, ↓yab, ↓yac, ↓yad, ↓yae, ↓yaf, ↓yag, ↓yah, ↓yai, ↓yaj, ↓yak, ↓yal, ↓yam, ↓yan, ↓yao, ↓yap, ↓yaq, ↓yar, ↓yas, ↓yat, ↓yau, ↓yav, ↓yaw, ↓yax, yay, yaz, yba, ybb, ybc, ybd, ybe, ybf, ybg, ybh, ybi, ybj, ybk, ybl, ybm, ybn, ybo, ybp, ybq, ybr, ybs, ybt, ybu, ybv, ares, tup, ybw, ybx, yby, argsE, dval, aop, ev, evs, evo, evp, fillL, addrOf, intOf?, ybz, yca, ycb, ycc, ycd, yce, ycf, zah, zag, reduceIte, Nat.reduceEqDiff, ycg, ych, yci, ycj, yck, ycl, ycm, ycn, yco, ycp, ycq, ycr, zap, zao, reduceCtorEq, zbb, zbc, zba, zaz, Nat.reduceAdd, Nat.reduceMul, zaq, zar, eqPtr, zae, zaf, zab, zaa, zac, zad , hload, hstore, zal, zam, Nat.reduceAdd, Nat.reduceLeDiff, zbb, zas, zat, one, zau, zaw, zav, splice, zaj, zak, zab, zaa, ycs, yct, ycu, ycv, ycw, ycx, ycy, ycz, zan, zai, zax, zay, and_self, true_and, and_true, lenV, yda, Nat.le_refl, if_true , hp, c1, hwr, h2, wrap_u64_nat]
          refine put_spec (u64_lt n) (by omega) (by omega) h _ fun H' o' k1 k2 k3 => ?_
          simp only [↓yaa, ↓yab, ↓yac, ↓yad, ↓yae, ↓yaf, ↓yag, ↓yah, ↓yai, ↓yaj, ↓yak, ↓yal, ↓yam, ↓yan, ↓yao, ↓yap, ↓yaq, ↓yar, ↓yas, ↓yat, ↓yau, ↓yav, ↓yaw, ↓yax, yay, yaz, yba, ybb, ybc, ybd, ybe, ybf, ybg, ybh, ybi, ybj, ybk, ybl, ybm, ybn, ybo, ybp, ybq, ybr, ybs, ybt, ybu, ybv, ares, tup, ybw, ybx, yby, argsE, dval, aop, ev, evs, evo, evp, fillL, addrOf, intOf?, ybz, yca, ycb, ycc, ycd, yce, ycf, zah, zag, reduceIte, Nat.reduceEqDiff, ycg, ych, yci, ycj, yck, ycl, ycm, ycn, yco, ycp, ycq, ycr, zap, zao, reduceCtorEq, zbb, zbc, zba, zaz, Nat.reduceAdd, Nat.reduceMul, zaq, zar, eqPtr, zae, zaf, zab, zaa, zac, zad ]
          refine hk H' o' ?_ k2 k3
          simp only [WS.field, h1, h2]
          simpa [h1] using k1
  · have c1 : decide (s.err ≠ 0) = true := by simp [h1]
    simp only [F50, ↓yaa, ↓yab, ↓yac, ↓yad, ↓yae, ↓yaf, ↓yag, ↓yah, ↓yai, ↓yaj, ↓yak, ↓yal, ↓yam, ↓yan, ↓yao, ↓yap, ↓yaq, ↓yar, ↓yas, ↓yat, ↓yau, ↓yav, ↓yaw, ↓yax, yay, yaz, yba, ybb, ybc, ybd, ybe, ybf, ybg, ybh, ybi, ybj, ybk, ybl, ybm, ybn, ybo, ybp, ybq, ybr, ybs, ybt, ybu, ybv, ares, tup, ybw, ybx, yby, argsE, dval, aop, ev, evs, evo, evp, fillL, addrOf, intOf?, ybz, yca, ycb, ycc, ycd, yce, ycf, zah, zag, reduceIte, Nat.reduceEqDiff, ycg, ych, yci, ycj, yck, ycl, ycm, ycn, yco, ycp, ycq, ycr, zap, zao, reduceCtorEq, zbb, zbc, zba, zaz, Nat.reduceAdd, Nat.reduceMul, zaq, zar, eqPtr, zae, zaf, zab, zaa, zac, zad , hload, hstore, zal, zam, Nat.reduceAdd, Nat.reduceLeDiff, zbb, zas, zat, one, zau, zaw, zav, splice, zaj, zak, zab, zaa, ycs, yct, ycu, ycv, ycw, ycx, ycy, ycz, zan, zai, zax, zay, and_self, true_and, and_true, lenV, yda, Nat.le_refl, if_true , hp, c1]
    refine hk H o ?_ (Frm.refl _ _) (fun q hq => .inl hq)
    simpa [WS.field, h1] using h

end Go.Proofs.Ytejcabdejoameaa.AI

/- The writer's methods, further. -/
set_option linter.unusedSimpArgs false
namespace Go.Proofs.Ytejcabdejoameaa.AI
open Go

/-- A whole number of Go's int. -/
def Is64 (n : Int) : Prop := -9223372036854775808 ≤ n ∧ n < 9223372036854775808

def WS.unsigned (s : WS) (w n : Int) : WS := s.field (decide (1 ≤ w ∧ w ≤ 63)) (decide ((1 ≤ w ∧ w ≤ 63) ∧ 0 ≤ n ∧ n < 2 ^ w.toNat)) w n
def WS.signed (s : WS) (w n : Int) : WS := s.field (decide (2 ≤ w ∧ w ≤ 63)) (decide ((2 ≤ w ∧ w ≤ 63) ∧ -2 ^ (w.toNat - 1) ≤ n ∧ n < 2 ^ (w.toNat - 1))) w n
def WS.flag (s : WS) (b : Bool) : WS := s.field true true 1 (if b then 1 else 0)

theorem blen_int {n : Int} {w : Int} (h0 : 0 ≤ n) (hw : 0 ≤ w) : ((blen n.toNat : Nat) : Int) ≤ w ↔ n < 2 ^ w.toNat := by
  have h1 : ((blen n.toNat : Nat) : Int) ≤ w ↔ blen n.toNat ≤ w.toNat := by omega
  rw [h1, blen_le]
  have : (2 : Int) ^ w.toNat = ((2 ^ w.toNat : Nat) : Int) := by push_cast; rfl
  rw [this]; omega

theorem unsigned_spec {H : Heap} {p : Nat} {o : Option Nat} {s : WS} {w n : Int} (h : WSt H p o s.bs s.err) (hlen : s.bs.length ≤ 524288) (hn : Is64 n) {K : Value → Heap → Prop}
    (hk : Wrote H p o (s.unsigned w n) K) : Op1 (AC tbl 25 [.pointer (some ⟨p, 0, none⟩), .int .i64 w, .int .i64 n] H) K := by
  obtain ⟨hn0, hn1⟩ := hn
  apply AC_wp (F := F25) rfl (by simp [F25]) (.inl rfl)
  have fin' : ∀ (r f : Bool), r = decide (1 ≤ w ∧ w ≤ 63) → f = decide ((1 ≤ w ∧ w ≤ 63) ∧ 0 ≤ n ∧ n < 2 ^ w.toNat) →
      Op1 (AC tbl 50 [.pointer (some ⟨p, 0, none⟩), .bool r, .bool f, .int .i64 w, .int .i64 n] H) (fun _ H1 => K (.tuple #[]) H1) := by
    rintro r f rfl rfl
    exact field_spec h hlen (fun hr => by simp at hr; omega) hk
  by_cases h1 : 1 ≤ w
  · by_cases h2 : w ≤ 63
    · by_cases h3 : 0 ≤ n
      · obtain ⟨m, rfl⟩ : ∃ m : Nat, n = m := ⟨n.toNat, by omega⟩
        simp only [F25, ↓yaa, ↓yab, ↓yac, ↓yad, ↓yae, ↓yaf, ↓yag, ↓yah, ↓yai, ↓yaj, ↓yak, ↓yal, ↓yam, ↓yan, ↓yao, ↓yap, ↓yaq, ↓yar, ↓yas, ↓yat, ↓yau, ↓yav, ↓yaw, ↓yax, yay, yaz, yba, ybb, ybc, ybd, ybe, ybf, ybg, ybh, ybi, ybj, ybk, ybl, ybm, ybn, ybo, ybp, ybq, ybr, ybs, ybt, ybu, ybv, ares, tup, ybw, ybx, yby, argsE, dval, aop, ev, evs, evo, evp, fillL, addrOf, intOf?, ybz, yca, ycb, ycc, ycd, yce, ycf, zah, zag, reduceIte, Nat.reduceEqDiff, ycg, ych, yci, ycj, yck, ycl, ycm, ycn, yco, ycp, ycq, ycr, zap, zao, reduceCtorEq, zbb, zbc, zba, zaz, Nat.reduceAdd, Nat.reduceMul, zaq, zar, eqPtr, zae, zaf, zab, zaa, zac, zad , h1, h2, h3, wrap_u64 h3 (by omega : (m : Int) < 18446744073709551616), len_any m (by omega)]
        refine Op1_mono (fin' _ _ (by simp [h1, h2]) ?_) fun v H1 hv => by simpa only [↓yaa, ↓yab, ↓yac, ↓yad, ↓yae, ↓yaf, ↓yag, ↓yah, ↓yai, ↓yaj, ↓yak, ↓yal, ↓yam, ↓yan, ↓yao, ↓yap, ↓yaq, ↓yar, ↓yas, ↓yat, ↓yau, ↓yav, ↓yaw, ↓yax, yay, yaz, yba, ybb, ybc, ybd, ybe, ybf, ybg, ybh, ybi, ybj, ybk, ybl, ybm, ybn, ybo, ybp, ybq, ybr, ybs, ybt, ybu, ybv, ares, tup, ybw, ybx, yby, argsE, dval, aop, ev, evs, evo, evp, fillL, addrOf, intOf?, ybz, yca, ycb, ycc, ycd, yce, ycf, zah, zag, reduceIte, Nat.reduceEqDiff, ycg, ych, yci, ycj, yck, ycl, ycm, ycn, yco, ycp, ycq, ycr, zap, zao, reduceCtorEq, zbb, zbc, zba, zaz, Nat.reduceAdd, Nat.reduceMul, zaq, zar, eqPtr, zae, zaf, zab, zaa, zac, zad ] using hv
        have := blen_int (n := m) (w := w) h3 (by omega)
        simp only [Int.toNat_natCast] at this
        simp [h1, h2, this]
      · simp only [F25, ↓yaa, ↓yab, ↓yac, ↓yad, ↓yae, ↓yaf, ↓yag, ↓yah, ↓yai, ↓yaj, ↓yak, ↓yal, ↓yam, ↓yan, ↓yao, ↓yap, ↓yaq, ↓yar, ↓yas, ↓yat, ↓yau, ↓yav, ↓yaw, ↓yax, yay, yaz, yba, ybb, ybc, ybd, ybe, ybf, ybg, ybh, ybi, ybj, ybk, ybl, ybm, ybn, ybo, ybp, ybq, ybr, ybs, ybt, ybu, ybv, ares, tup, ybw, ybx, yby, argsE, dval, aop, ev, evs, evo, evp, fillL, addrOf, intOf?, ybz, yca, ycb, ycc, ycd, yce, ycf, zah, zag, reduceIte, Nat.reduceEqDiff, ycg, ych, yci, ycj, yck, ycl, ycm, ycn, yco, ycp, ycq, ycr, zap, zao, reduceCtorEq, zbb, zbc, zba, zaz, Nat.reduceAdd, Nat.reduceMul, zaq, zar, eqPtr, zae, zaf, zab, zaa, zac, zad , h1, h2, h3]
        exact Op1_mono (fin' _ _ (by simp [h1, h2]) (by simp [h3])) fun v H1 hv => by simpa only [↓yaa, ↓yab, ↓yac, ↓yad, ↓yae, ↓yaf, ↓yag, ↓yah, ↓yai, ↓yaj, ↓yak, ↓yal, ↓yam, ↓yan, ↓yao, ↓yap, ↓yaq, ↓yar, ↓yas, ↓yat, ↓yau, ↓yav, ↓yaw, ↓yax, yay, yaz, yba, ybb, ybc, ybd, ybe, ybf, ybg, ybh, ybi, ybj, ybk, ybl, ybm, ybn, ybo, ybp, ybq, ybr, ybs, ybt, ybu, ybv, ares, tup, ybw, ybx, yby, argsE, dval, aop, ev, evs, evo, evp, fillL, addrOf, intOf?, ybz, yca, ycb, ycc, ycd, yce, ycf, zah, zag, reduceIte, Nat.reduceEqDiff, ycg, ych, yci, ycj, yck, ycl, ycm, ycn, yco, ycp, ycq, ycr, zap, zao, reduceCtorEq, zbb, zbc, zba, zaz, Nat.reduceAdd, Nat.reduceMul, zaq, zar, eqPtr, zae, zaf, zab, zaa, zac, zad ] using hv
    · simp only [F25, ↓yaa, ↓yab, ↓yac, ↓yad, ↓yae, ↓yaf, ↓yag, ↓yah, ↓yai, ↓yaj, ↓yak, ↓yal, ↓yam, ↓yan, ↓yao, ↓yap, ↓yaq, ↓yar, ↓yas, ↓yat, ↓yau, ↓yav, ↓yaw, ↓yax, yay, yaz, yba, ybb, ybc, ybd, ybe, ybf, ybg, ybh, ybi, ybj, ybk, ybl, ybm, ybn, ybo, ybp, ybq, ybr, ybs, ybt, ybu, ybv, ares, tup, ybw, ybx, yby, argsE, dval, aop, ev, evs, evo, evp, fillL, addrOf, intOf?, ybz, yca, ycb, ycc, ycd, yce, ycf, zah, zag, reduceIte, Nat.reduceEqDiff, ycg, ych, yci, ycj, yck, ycl, ycm, ycn, yco, ycp, ycq, ycr, zap, zao, reduceCtorEq, zbb, zbc, zba, zaz, Nat.reduceAdd, Nat.reduceMul, zaq, zar, eqPtr, zae, zaf, zab, zaa, zac, zad , h1, h2]
      exact Op1_mono (fin' _ _ (by simp [h1, h2]) (by simp [h2])) fun v H1 hv => by simpa only [↓yaa, ↓yab, ↓yac, ↓yad, ↓yae, ↓yaf, ↓yag, ↓yah, ↓yai, ↓yaj, ↓yak, ↓yal, ↓yam, ↓yan, ↓yao, ↓yap, ↓yaq, ↓yar, ↓yas, ↓yat, ↓yau, ↓yav, ↓yaw, ↓yax, yay, yaz, yba, ybb, ybc, ybd, ybe, ybf, ybg, ybh, ybi, ybj, ybk, ybl, ybm, ybn, ybo, ybp, ybq, ybr, ybs, ybt, ybu, ybv, ares, tup, ybw, ybx, yby, argsE, dval, aop, ev, evs, evo, evp, fillL, addrOf, intOf?, ybz, yca, ycb, ycc, ycd, yce, ycf, zah, zag, reduceIte, Nat.reduceEqDiff, ycg, ych, yci, ycj, yck, ycl, ycm, ycn, yco, ycp, ycq, ycr, zap, zao, reduceCtorEq, zbb, zbc, zba, zaz, Nat.reduceAdd, Nat.reduceMul, zaq, zar, eqPtr, zae, zaf, zab, zaa, zac, zad ] using hv
  · simp only [F25, ↓yaa, ↓yab, ↓yac, ↓yad, ↓yae, ↓yaf, ↓yag, ↓yah, ↓yai, ↓yaj, ↓yak, ↓yal, ↓yam, ↓yan, ↓yao, ↓yap, ↓yaq, ↓yar, ↓yas, ↓yat, ↓yau, ↓yav, ↓yaw, ↓yax, yay, yaz, yba, ybb, ybc, ybd, ybe, ybf, ybg, ybh, ybi, ybj, ybk, ybl, ybm, ybn, ybo, ybp, ybq, ybr, ybs, ybt, ybu, ybv, ares, tup, ybw, ybx, yby, argsE, dval, aop, ev, evs, evo, evp, fillL, addrOf, intOf?, ybz, yca, ycb, ycc, ycd, yce, ycf, zah, zag, reduceIte, Nat.reduceEqDiff, ycg, ych, yci, ycj, yck, ycl, ycm, ycn, yco, ycp, ycq, ycr, zap, zao, reduceCtorEq, zbb, zbc, zba, zaz, Nat.reduceAdd, Nat.reduceMul, zaq, zar, eqPtr, zae, zaf, zab, zaa, zac, zad , h1]
    exact Op1_mono (fin' _ _ (by simp [h1]) (by simp [h1])) fun v H1 hv => by simpa only [↓yaa, ↓yab, ↓yac, ↓yad, ↓yae, ↓yaf, ↓yag, ↓yah, ↓yai, ↓yaj, ↓yak, ↓yal, ↓yam, ↓yan, ↓yao, ↓yap, ↓yaq, ↓yar, ↓yas, ↓yat, ↓yau, ↓yav, ↓yaw, ↓yax, yay, yaz, yba, ybb, ybc, ybd, ybe, ybf, ybg, ybh, ybi, ybj, ybk, ybl, ybm, ybn, ybo, ybp, ybq, ybr, ybs, ybt, ybu, ybv, ares, tup, ybw, ybx, yby, argsE, dval, aop, ev, evs, evo, evp, fillL, addrOf, intOf?, ybz, yca, ycb, ycc, ycd, yce, ycf, zah, zag, reduceIte, Nat.reduceEqDiff, ycg, ych, yci, ycj, yck, ycl, ycm, ycn, yco, ycp, ycq, ycr, zap, zao, reduceCtorEq, zbb, zbc, zba, zaz, Nat.reduceAdd, Nat.reduceMul, zaq, zar, eqPtr, zae, zaf, zab, zaa, zac, zad ] using hv

theorem pow_small {k : Nat} (h : k ≤ 62) : (2 : Int) ^ k ≤ 4611686018427387904 := by
  have : (2 : Nat) ^ k ≤ 2 ^ 62 := Nat.pow_le_pow_right (by omega) h
  have h2 : (2 : Int) ^ k = ((2 ^ k : Nat) : Int) := by push_cast; rfl
  rw [h2]; omega
theorem pow_pos' (k : Nat) : (1 : Int) ≤ 2 ^ k := by
  have : 1 ≤ (2 : Nat) ^ k := Nat.one_le_two_pow
  have h2 : (2 : Int) ^ k = ((2 ^ k : Nat) : Int) := by push_cast; rfl
  rw [h2]; omega
theorem shl_int (c : Int) (k : Nat) (hc : c = 1 ∨ c = -1) (h : k ≤ 62) : binV .shl (.int .i64 c) (.int .i64 (k : Int)) = some (.int .i64 (c * 2 ^ k)) := by
  have h1 := pow_small h
  have h2 := pow_pos' k
  rw [binV_shl _ _ _ _ (by omega), show min ((k : Int)).toNat IntKind.i64.bits = k by simp [IntKind.bits]; omega]
  rw [wrap_i64 (by rcases hc with rfl | rfl <;> omega) (by rcases hc with rfl | rfl <;> omega)]

theorem flag_spec {H : Heap} {p : Nat} {o : Option Nat} {s : WS} {b : Bool} (h : WSt H p o s.bs s.err) (hlen : s.bs.length ≤ 524288) {K : Value → Heap → Prop}
    (hk : Wrote H p o (s.flag b) K) : Op1 (AC tbl 39 [.pointer (some ⟨p, 0, none⟩), .bool b] H) K := by
  apply AC_wp (F := F39) rfl (by simp [F39]) (.inl rfl)
  cases b
  · simp only [F39, ↓yaa, ↓yab, ↓yac, ↓yad, ↓yae, ↓yaf, ↓yag, ↓yah, ↓yai, ↓yaj, ↓yak, ↓yal, ↓yam, ↓yan, ↓yao, ↓yap, ↓yaq, ↓yar, ↓yas, ↓yat, ↓yau, ↓yav, ↓yaw, ↓yax, yay, yaz, yba, ybb, ybc, ybd, ybe, ybf, ybg, ybh, ybi, ybj, ybk, ybl, ybm, ybn, ybo, ybp, ybq, ybr, ybs, ybt, ybu, ybv, ares, tup, ybw, ybx, yby, argsE, dval, aop, ev, evs, evo, evp, fillL, addrOf, intOf?, ybz, yca, ycb, ycc, ycd, yce, ycf, zah, zag, reduceIte, Nat.reduceEqDiff, ycg, ych, yci, ycj, yck, ycl, ycm, ycn, yco, ycp, ycq, ycr, zap, zao, reduceCtorEq, zbb, zbc, zba, zaz, Nat.reduceAdd, Nat.reduceMul, zaq, zar, eqPtr, zae, zaf, zab, zaa, zac, zad ]
    exact Op1_mono (field_spec (K := fun _ H1 => K (.tuple #[]) H1) h hlen (fun _ => by omega) hk) fun v H1 hv => by simpa only [↓yaa, ↓yab, ↓yac, ↓yad, ↓yae, ↓yaf, ↓yag, ↓yah, ↓yai, ↓yaj, ↓yak, ↓yal, ↓yam, ↓yan, ↓yao, ↓yap, ↓yaq, ↓yar, ↓yas, ↓yat, ↓yau, ↓yav, ↓yaw, ↓yax, yay, yaz, yba, ybb, ybc, ybd, ybe, ybf, ybg, ybh, ybi, ybj, ybk, ybl, ybm, ybn, ybo, ybp, ybq, ybr, ybs, ybt, ybu, ybv, ares, tup, ybw, ybx, yby, argsE, dval, aop, ev, evs, evo, evp, fillL, addrOf, intOf?, ybz, yca, ycb, ycc, ycd, yce, ycf, zah, zag, reduceIte, Nat.reduceEqDiff, ycg, ych, yci, ycj, yck, ycl, ycm, ycn, yco, ycp, ycq, ycr, zap, zao, reduceCtorEq, zbb, zbc, zba, zaz, Nat.reduceAdd, Nat.reduceMul, zaq, zar, eqPtr, zae, zaf, zab, zaa, zac, zad ] using hv
  · simp only [F39, ↓yaa, ↓yab, ↓yac, ↓yad, ↓yae, ↓yaf, ↓yag, ↓yah, ↓yai, ↓yaj, ↓yak, ↓yal, ↓yam, ↓yan, ↓yao, ↓yap, ↓yaq, ↓yar, ↓yas, ↓yat, ↓yau, ↓yav, ↓yaw, ↓yax, yay, yaz, yba, ybb, ybc, ybd, ybe, ybf, ybg, ybh, ybi, ybj, ybk, ybl, ybm, ybn, ybo, ybp, ybq, ybr, ybs, ybt, ybu, ybv, ares, tup, ybw, ybx, yby, argsE, dval, aop, ev, evs, evo, evp, fillL, addrOf, intOf?, ybz, yca, ycb, ycc, ycd, yce, ycf, zah, zag, reduceIte, Nat.reduceEqDiff, ycg, ych, yci, ycj, yck, ycl, ycm, ycn, yco, ycp, ycq, ycr, zap, zao, reduceCtorEq, zbb, zbc, zba, zaz, Nat.reduceAdd, Nat.reduceMul, zaq, zar, eqPtr, zae, zaf, zab, zaa, zac, zad ]
    exact Op1_mono (field_spec (K := fun _ H1 => K (.tuple #[]) H1) h hlen (fun _ => by omega) hk) fun v H1 hv => by simpa only [↓yaa, ↓yab, ↓yac, ↓yad, ↓yae, ↓yaf, ↓yag, ↓yah, ↓yai, ↓yaj, ↓yak, ↓yal, ↓yam, ↓yan, ↓yao, ↓yap, ↓yaq, ↓yar, ↓yas, ↓yat, ↓yau, ↓yav, ↓yaw, ↓yax, yay, yaz, yba, ybb, ybc, ybd, ybe, ybf, ybg, ybh, ybi, ybj, ybk, ybl, ybm, ybn, ybo, ybp, ybq, ybr, ybs, ybt, ybu, ybv, ares, tup, ybw, ybx, yby, argsE, dval, aop, ev, evs, evo, evp, fillL, addrOf, intOf?, ybz, yca, ycb, ycc, ycd, yce, ycf, zah, zag, reduceIte, Nat.reduceEqDiff, ycg, ych, yci, ycj, yck, ycl, ycm, ycn, yco, ycp, ycq, ycr, zap, zao, reduceCtorEq, zbb, zbc, zba, zaz, Nat.reduceAdd, Nat.reduceMul, zaq, zar, eqPtr, zae, zaf, zab, zaa, zac, zad ] using hv

/-- A new writer. -/
theorem newWriter_eq (H : Heap) : AC tbl 13 [] H = some (.pointer (some ⟨H.length, 0, none⟩), H ++ [some ⟨true, [.slice none 0 0, .int .i64 0, .int .i64 0]⟩]) := by
  apply AC_eq
  apply AC_wp (F := F13) rfl (by simp [F13]) (.inl rfl)
  simp only [F13, ↓yaa, ↓yab, ↓yac, ↓yad, ↓yae, ↓yaf, ↓yag, ↓yah, ↓yai, ↓yaj, ↓yak, ↓yal, ↓yam, ↓yan, ↓yao, ↓yap, ↓yaq, ↓yar, ↓yas, ↓yat, ↓yau, ↓yav, ↓yaw, ↓yax, yay, yaz, yba, ybb, ybc, ybd, ybe, ybf, ybg, ybh, ybi, ybj, ybk, ybl, ybm, ybn, ybo, ybp, ybq, ybr, ybs, ybt, ybu, ybv, ares, tup, ybw, ybx, yby, argsE, dval, aop, ev, evs, evo, evp, fillL, addrOf, intOf?, ybz, yca, ycb, ycc, ycd, yce, ycf, zah, zag, reduceIte, Nat.reduceEqDiff, ycg, ych, yci, ycj, yck, ycl, ycm, ycn, yco, ycp, ycq, ycr, zap, zao, reduceCtorEq, zbb, zbc, zba, zaz, Nat.reduceAdd, Nat.reduceMul, zaq, zar, eqPtr, zae, zaf, zab, zaa, zac, zad , hload, hstore, zal, zam, Nat.reduceAdd, Nat.reduceLeDiff, zbb, zas, zat, one, zau, zaw, zav, splice, zaj, zak, zab, zaa, ycs, yct, ycu, ycv, ycw, ycx, ycy, ycz, zan, zai, zax, zay, and_self, true_and, and_true, lenV, yda, Nat.le_refl, if_true ]
  rfl
theorem newWriter_st (H : Heap) : WSt (H ++ [some ⟨true, [.slice none 0 0, .int .i64 0, .int .i64 0]⟩]) H.length none [] 0 :=
  ⟨[], ⟨ydu, fun _ => rfl, fun q hq => by simp at hq⟩, Bits.nil, rfl⟩

theorem bytes_u8s (d : List Nat) (h : ∀ x ∈ d, x < 256) : bytesOf? (u8s d) = some (d.map UInt8.ofNat) := by
  induction d with
  | nil => rfl
  | cons x d ih =>
    have := ih fun y hy => h y (List.mem_cons_of_mem _ hy)
    simp only [u8s, List.map_cons, bytesOf?] at this ⊢
    rw [this]; simp

/-- A writer's bytes, as a string. -/
def strOf (d : List Nat) : ByteArray := ⟨(d.map UInt8.ofNat).toArray⟩
/-- The string that a writer's bits make. -/
def IsStr (bs : List Bool) (s : ByteArray) : Prop := ∃ d, Bits d bs ∧ d.length = (bs.length + 7) / 8 ∧ s = strOf d
theorem IsStr.same {bs : List Bool} {s s' : ByteArray} (h : IsStr bs s) (h' : IsStr bs s') : s = s' := by
  obtain ⟨d, h1, h2, rfl⟩ := h
  obtain ⟨d', h1', h2', rfl⟩ := h'
  rw [h1.same h1' (by omega)]

theorem bytes_spec {H : Heap} {p : Nat} {o : Option Nat} {bs : List Bool} {err : Int} (h : WSt H p o bs err) : ∃ s, IsStr bs s ∧
    AC tbl 17 [.pointer (some ⟨p, 0, none⟩)] H = some (.tuple #[.string (if err = 0 then s else ⟨#[]⟩), .int .i64 err], H) := by
  obtain ⟨d, hr, hb, hd⟩ := h.ex
  refine ⟨strOf d, ⟨d, hb, hd, rfl⟩, ?_⟩
  apply AC_eq
  apply AC_wp (F := F17) rfl (by simp [F17]) (.inl rfl)
  have hp := hr.blk
  by_cases h1 : err = 0
  · subst h1
    cases o with
    | none =>
      obtain rfl := hr.nil rfl
      simp only [F17, ↓yaa, ↓yab, ↓yac, ↓yad, ↓yae, ↓yaf, ↓yag, ↓yah, ↓yai, ↓yaj, ↓yak, ↓yal, ↓yam, ↓yan, ↓yao, ↓yap, ↓yaq, ↓yar, ↓yas, ↓yat, ↓yau, ↓yav, ↓yaw, ↓yax, yay, yaz, yba, ybb, ybc, ybd, ybe, ybf, ybg, ybh, ybi, ybj, ybk, ybl, ybm, ybn, ybo, ybp, ybq, ybr, ybs, ybt, ybu, ybv, ares, tup, ybw, ybx, yby, argsE, dval, aop, ev, evs, evo, evp, fillL, addrOf, intOf?, ybz, yca, ycb, ycc, ycd, yce, ycf, zah, zag, reduceIte, Nat.reduceEqDiff, ycg, ych, yci, ycj, yck, ycl, ycm, ycn, yco, ycp, ycq, ycr, zap, zao, reduceCtorEq, zbb, zbc, zba, zaz, Nat.reduceAdd, Nat.reduceMul, zaq, zar, eqPtr, zae, zaf, zab, zaa, zac, zad , hload, hstore, zal, zam, Nat.reduceAdd, Nat.reduceLeDiff, zbb, zas, zat, one, zau, zaw, zav, splice, zaj, zak, zab, zaa, ycs, yct, ycu, ycv, ycw, ycx, ycy, ycz, zan, zai, zax, zay, and_self, true_and, and_true, lenV, yda, Nat.le_refl, if_true , hp, sliceOf, ne_eq, not_true_eq_false, bytesOf?]
      rfl
    | some q =>
      obtain ⟨hqp, hq2⟩ := hr.dat q rfl
      by_cases hd0 : d.length = 0
      · have : d = [] := List.eq_nil_of_length_eq_zero hd0
        subst this
        simp only [F17, ↓yaa, ↓yab, ↓yac, ↓yad, ↓yae, ↓yaf, ↓yag, ↓yah, ↓yai, ↓yaj, ↓yak, ↓yal, ↓yam, ↓yan, ↓yao, ↓yap, ↓yaq, ↓yar, ↓yas, ↓yat, ↓yau, ↓yav, ↓yaw, ↓yax, yay, yaz, yba, ybb, ybc, ybd, ybe, ybf, ybg, ybh, ybi, ybj, ybk, ybl, ybm, ybn, ybo, ybp, ybq, ybr, ybs, ybt, ybu, ybv, ares, tup, ybw, ybx, yby, argsE, dval, aop, ev, evs, evo, evp, fillL, addrOf, intOf?, ybz, yca, ycb, ycc, ycd, yce, ycf, zah, zag, reduceIte, Nat.reduceEqDiff, ycg, ych, yci, ycj, yck, ycl, ycm, ycn, yco, ycp, ycq, ycr, zap, zao, reduceCtorEq, zbb, zbc, zba, zaz, Nat.reduceAdd, Nat.reduceMul, zaq, zar, eqPtr, zae, zaf, zab, zaa, zac, zad , hload, hstore, zal, zam, Nat.reduceAdd, Nat.reduceLeDiff, zbb, zas, zat, one, zau, zaw, zav, splice, zaj, zak, zab, zaa, ycs, yct, ycu, ycv, ycw, ycx, ycy, ycz, zan, zai, zax, zay, and_self, true_and, and_true, lenV, yda, Nat.le_refl, if_true , hp, sliceOf, ne_eq, not_true_eq_false, bytesOf?]
        rfl
      · simp only [F17, ↓yaa, ↓yab, ↓yac, ↓yad, ↓yae, ↓yaf, ↓yag, ↓yah, ↓yai, ↓yaj, ↓yak, ↓yal, ↓yam, ↓yan, ↓yao, ↓yap, ↓yaq, ↓yar, ↓yas, ↓yat, ↓yau, ↓yav, ↓yaw, ↓yax, yay, yaz, yba, ybb, ybc, ybd, ybe, ybf, ybg, ybh, ybi, ybj, ybk, ybl, ybm, ybn, ybo, ybp, ybq, ybr, ybs, ybt, ybu, ybv, ares, tup, ybw, ybx, yby, argsE, dval, aop, ev, evs, evo, evp, fillL, addrOf, intOf?, ybz, yca, ycb, ycc, ycd, yce, ycf, zah, zag, reduceIte, Nat.reduceEqDiff, ycg, ych, yci, ycj, yck, ycl, ycm, ycn, yco, ycp, ycq, ycr, zap, zao, reduceCtorEq, zbb, zbc, zba, zaz, Nat.reduceAdd, Nat.reduceMul, zaq, zar, eqPtr, zae, zaf, zab, zaa, zac, zad , hload, hstore, zal, zam, Nat.reduceAdd, Nat.reduceLeDiff, zbb, zas, zat, one, zau, zaw, zav, splice, zaj, zak, zab, zaa, ycs, yct, ycu, ycv, ycw, ycx, ycy, ycz, zan, zai, zax, zay, and_self, true_and, and_true, lenV, yda, Nat.le_refl, if_true , hp, sliceOf, ne_eq, not_true_eq_false, hq2, hd0, u8s_length, Nat.mul_one, List.drop_zero]
        rw [show List.take d.length (u8s d) = u8s d by rw [← u8s_length d]; exact List.take_length]
        rw [bytes_u8s d hb.small]
        simp only [↓yaa, ↓yab, ↓yac, ↓yad, ↓yae, ↓yaf, ↓yag, ↓yah, ↓yai, ↓yaj, ↓yak, ↓yal, ↓yam, ↓yan, ↓yao, ↓yap, ↓yaq, ↓yar, ↓yas, ↓yat, ↓yau, ↓yav, ↓yaw, ↓yax, yay, yaz, yba, ybb, ybc, ybd, ybe, ybf, ybg, ybh, ybi, ybj, ybk, ybl, ybm, ybn, ybo, ybp, ybq, ybr, ybs, ybt, ybu, ybv, ares, tup, ybw, ybx, yby, argsE, dval, aop, ev, evs, evo, evp, fillL, addrOf, intOf?, ybz, yca, ycb, ycc, ycd, yce, ycf, zah, zag, reduceIte, Nat.reduceEqDiff, ycg, ych, yci, ycj, yck, ycl, ycm, ycn, yco, ycp, ycq, ycr, zap, zao, reduceCtorEq, zbb, zbc, zba, zaz, Nat.reduceAdd, Nat.reduceMul, zaq, zar, eqPtr, zae, zaf, zab, zaa, zac, zad ]
        exact ⟨rfl, trivial⟩
  · have c1 : decide (err ≠ 0) = true := by simp [h1]
    simp only [F17, ↓yaa, ↓yab, ↓yac, ↓yad, ↓yae, ↓yaf, ↓yag, ↓yah, ↓yai, ↓yaj, ↓yak, ↓yal, ↓yam, ↓yan, ↓yao, ↓yap, ↓yaq, ↓yar, ↓yas, ↓yat, ↓yau, ↓yav, ↓yaw, ↓yax, yay, yaz, yba, ybb, ybc, ybd, ybe, ybf, ybg, ybh, ybi, ybj, ybk, ybl, ybm, ybn, ybo, ybp, ybq, ybr, ybs, ybt, ybu, ybv, ares, tup, ybw, ybx, yby, argsE, dval, aop, ev, evs, evo, evp, fillL, addrOf, intOf?, ybz, yca, ycb, ycc, ycd, yce, ycf, zah, zag, reduceIte, Nat.reduceEqDiff, ycg, ych, yci, ycj, yck, ycl, ycm, ycn, yco, ycp, ycq, ycr, zap, zao, reduceCtorEq, zbb, zbc, zba, zaz, Nat.reduceAdd, Nat.reduceMul, zaq, zar, eqPtr, zae, zaf, zab, zaa, zac, zad , hload, hstore, zal, zam, Nat.reduceAdd, Nat.reduceLeDiff, zbb, zas, zat, one, zau, zaw, zav, splice, zaj, zak, zab, zaa, ycs, yct, ycu, ycv, ycw, ycx, ycy, ycz, zan, zai, zax, zay, and_self, true_and, and_true, lenV, yda, Nat.le_refl, if_true , hp, c1, h1]

end Go.Proofs.Ytejcabdejoameaa.AI

/- The reader's methods. -/
set_option linter.unusedSimpArgs false
namespace Go.Proofs.Ytejcabdejoameaa.AI
open Go

def RS.fail (r : RS) (e : Int) : RS := if r.err = 0 then { r with err := e } else r
def RS.left (r : RS) : Int := if r.err = 0 then 8 * (r.s.size : Int) - r.at_ else 0
/-- What holds of each reader. -/
structure RS.Ok (r : RS) : Prop where
  at_le : r.at_ ≤ 8 * r.s.size
  size : r.s.size ≤ 65536
def RS.field (r : RS) (right : Bool) (w : Int) : Nat × RS :=
  if r.err ≠ 0 then (0, r) else if right = false then (0, { r with err := 1 }) else if r.left < w then (0, { r with err := 9 }) else (valOf r.s r.at_ w.toNat, { r with at_ := r.at_ + w.toNat })

theorem RS.fail_ok {r : RS} (h : r.Ok) (e : Int) : (r.fail e).Ok := by
  unfold RS.fail; split
  · exact ⟨h.at_le, h.size⟩
  · exact h
theorem RS.field_ok {r : RS} (h : r.Ok) {right : Bool} {w : Int} (hw : right = true → 0 ≤ w) : (r.field right w).2.Ok := by
  unfold RS.field
  split
  · exact h
  · split
    · exact ⟨h.at_le, h.size⟩
    · split
      · exact ⟨h.at_le, h.size⟩
      · rename_i h1 h2 h3
        have := hw (by simpa using h2)
        simp only [RS.left, if_pos (Classical.not_not.1 h1)] at h3
        exact ⟨by simp only; omega, h.size⟩

theorem cells_get {H : Heap} {p : Nat} {r : RS} (h : RSt H p r) : hget H p = some ⟨true, [.string r.s, .int .i64 (r.at_ : Int), .int .i64 r.err]⟩ := h

theorem fail_spec {H : Heap} {p : Nat} {r : RS} {e : Int} (h : RSt H p r) : AC tbl 57 [.pointer (some ⟨p, 0, none⟩), .int .i64 e] H = some (.tuple #[], setR H p (r.fail e)) := by
  apply AC_eq
  apply AC_wp (F := F57) rfl (by simp [F57]) (.inl rfl)
  have hp := cells_get h
  by_cases h1 : r.err = 0
  · simp only [F57, ↓yaa, ↓yab, ↓yac, ↓yad, ↓yae, ↓yaf, ↓yag, ↓yah, ↓yai, ↓yaj, ↓yak, ↓yal, ↓yam, ↓yan, ↓yao, ↓yap, ↓yaq, ↓yar, ↓yas, ↓yat, ↓yau, ↓yav, ↓yaw, ↓yax, yay, yaz, yba, ybb, ybc, ybd, ybe, ybf, ybg, ybh, ybi, ybj, ybk, ybl, ybm, ybn, ybo, ybp, ybq, ybr, ybs, ybt, ybu, ybv, ares, tup, ybw, ybx, yby, argsE, dval, aop, ev, evs, evo, evp, fillL, addrOf, intOf?, ybz, yca, ycb, ycc, ycd, yce, ycf, zah, zag, reduceIte, Nat.reduceEqDiff, ycg, ych, yci, ycj, yck, ycl, ycm, ycn, yco, ycp, ycq, ycr, zap, zao, reduceCtorEq, zbb, zbc, zba, zaz, Nat.reduceAdd, Nat.reduceMul, zaq, zar, eqPtr, zae, zaf, zab, zaa, zac, zad , hload, hstore, zal, zam, Nat.reduceAdd, Nat.reduceLeDiff, zbb, zas, zat, one, zau, zaw, zav, splice, zaj, zak, zab, zaa, ycs, yct, ycu, ycv, ycw, ycx, ycy, ycz, zan, zai, zax, zay, and_self, true_and, and_true, lenV, yda, Nat.le_refl, if_true , hp, h1]
    simp [RS.fail, h1, setR, RS.cells]
  · simp only [F57, ↓yaa, ↓yab, ↓yac, ↓yad, ↓yae, ↓yaf, ↓yag, ↓yah, ↓yai, ↓yaj, ↓yak, ↓yal, ↓yam, ↓yan, ↓yao, ↓yap, ↓yaq, ↓yar, ↓yas, ↓yat, ↓yau, ↓yav, ↓yaw, ↓yax, yay, yaz, yba, ybb, ybc, ybd, ybe, ybf, ybg, ybh, ybi, ybj, ybk, ybl, ybm, ybn, ybo, ybp, ybq, ybr, ybs, ybt, ybu, ybv, ares, tup, ybw, ybx, yby, argsE, dval, aop, ev, evs, evo, evp, fillL, addrOf, intOf?, ybz, yca, ycb, ycc, ycd, yce, ycf, zah, zag, reduceIte, Nat.reduceEqDiff, ycg, ych, yci, ycj, yck, ycl, ycm, ycn, yco, ycp, ycq, ycr, zap, zao, reduceCtorEq, zbb, zbc, zba, zaz, Nat.reduceAdd, Nat.reduceMul, zaq, zar, eqPtr, zae, zaf, zab, zaa, zac, zad , hload, hstore, zal, zam, Nat.reduceAdd, Nat.reduceLeDiff, zbb, zas, zat, one, zau, zaw, zav, splice, zaj, zak, zab, zaa, ycs, yct, ycu, ycv, ycw, ycx, ycy, ycz, zan, zai, zax, zay, and_self, true_and, and_true, lenV, yda, Nat.le_refl, if_true , hp, h1]
    simp only [RS.fail, h1, if_false]
    exact (setR_same h).symm
theorem left_spec {H : Heap} {p : Nat} {r : RS} (h : RSt H p r) (ho : r.Ok) : AC tbl 33 [.pointer (some ⟨p, 0, none⟩)] H = some (.int .i64 r.left, H) := by
  apply AC_eq
  apply AC_wp (F := F33) rfl (by simp [F33]) (.inl rfl)
  have hp := cells_get h
  have h1 := ho.at_le
  have h2 := ho.size
  have w1 : IntKind.i64.wrap (8 * (r.s.size : Int)) = 8 * (r.s.size : Int) := wrap_i64 (by omega) (by omega)
  have w2 : IntKind.i64.wrap (8 * (r.s.size : Int) - (r.at_ : Int)) = 8 * (r.s.size : Int) - (r.at_ : Int) := wrap_i64 (by omega) (by omega)
  by_cases h3 : r.err = 0
  · simp only [F33, ↓yaa, ↓yab, ↓yac, ↓yad, ↓yae, ↓yaf, ↓yag, ↓yah, ↓yai, ↓yaj, ↓yak, ↓yal, ↓yam, ↓yan, ↓yao, ↓yap, ↓yaq, ↓yar, ↓yas, ↓yat, ↓yau, ↓yav, ↓yaw, ↓yax, yay, yaz, yba, ybb, ybc, ybd, ybe, ybf, ybg, ybh, ybi, ybj, ybk, ybl, ybm, ybn, ybo, ybp, ybq, ybr, ybs, ybt, ybu, ybv, ares, tup, ybw, ybx, yby, argsE, dval, aop, ev, evs, evo, evp, fillL, addrOf, intOf?, ybz, yca, ycb, ycc, ycd, yce, ycf, zah, zag, reduceIte, Nat.reduceEqDiff, ycg, ych, yci, ycj, yck, ycl, ycm, ycn, yco, ycp, ycq, ycr, zap, zao, reduceCtorEq, zbb, zbc, zba, zaz, Nat.reduceAdd, Nat.reduceMul, zaq, zar, eqPtr, zae, zaf, zab, zaa, zac, zad , hload, hstore, zal, zam, Nat.reduceAdd, Nat.reduceLeDiff, zbb, zas, zat, one, zau, zaw, zav, splice, zaj, zak, zab, zaa, ycs, yct, ycu, ycv, ycw, ycx, ycy, ycz, zan, zai, zax, zay, and_self, true_and, and_true, lenV, yda, Nat.le_refl, if_true , hp, h3, ne_eq, not_true_eq_false, w1, w2, RS.left]
  · simp only [F33, ↓yaa, ↓yab, ↓yac, ↓yad, ↓yae, ↓yaf, ↓yag, ↓yah, ↓yai, ↓yaj, ↓yak, ↓yal, ↓yam, ↓yan, ↓yao, ↓yap, ↓yaq, ↓yar, ↓yas, ↓yat, ↓yau, ↓yav, ↓yaw, ↓yax, yay, yaz, yba, ybb, ybc, ybd, ybe, ybf, ybg, ybh, ybi, ybj, ybk, ybl, ybm, ybn, ybo, ybp, ybq, ybr, ybs, ybt, ybu, ybv, ares, tup, ybw, ybx, yby, argsE, dval, aop, ev, evs, evo, evp, fillL, addrOf, intOf?, ybz, yca, ycb, ycc, ycd, yce, ycf, zah, zag, reduceIte, Nat.reduceEqDiff, ycg, ych, yci, ycj, yck, ycl, ycm, ycn, yco, ycp, ycq, ycr, zap, zao, reduceCtorEq, zbb, zbc, zba, zaz, Nat.reduceAdd, Nat.reduceMul, zaq, zar, eqPtr, zae, zaf, zab, zaa, zac, zad , hload, hstore, zal, zam, Nat.reduceAdd, Nat.reduceLeDiff, zbb, zas, zat, one, zau, zaw, zav, splice, zaj, zak, zab, zaa, ycs, yct, ycu, ycv, ycw, ycx, ycy, ycz, zan, zai, zax, zay, and_self, true_and, and_true, lenV, yda, Nat.le_refl, if_true , hp, h3, ne_eq, not_false_eq_true, RS.left]
theorem rfield_spec {H : Heap} {p : Nat} {r : RS} {right : Bool} {w : Int} (h : RSt H p r) (ho : r.Ok) (hw : right = true → 0 ≤ w ∧ w ≤ 63) :
    AC tbl 51 [.pointer (some ⟨p, 0, none⟩), .bool right, .int .i64 w] H = some (.int .u64 ((r.field right w).1 : Nat), setR H p (r.field right w).2) := by
  apply AC_eq
  apply AC_wp (F := F51) rfl (by simp [F51]) (.inl rfl)
  have hp := cells_get h
  by_cases h1 : r.err = 0
  · cases right with
    | false =>
      simp only [F51, ↓yaa, ↓yab, ↓yac, ↓yad, ↓yae, ↓yaf, ↓yag, ↓yah, ↓yai, ↓yaj, ↓yak, ↓yal, ↓yam, ↓yan, ↓yao, ↓yap, ↓yaq, ↓yar, ↓yas, ↓yat, ↓yau, ↓yav, ↓yaw, ↓yax, yay, yaz, yba, ybb, ybc, ybd, ybe, ybf, ybg, ybh, ybi, ybj, ybk, ybl, ybm, ybn, ybo, ybp, ybq, ybr, ybs, ybt, ybu, ybv, ares, tup, ybw, ybx, yby, argsE, dval, aop, ev, evs, evo, evp, fillL, addrOf, intOf?, ybz, yca, ycb, ycc, ycd, yce, ycf, zah, zag, reduceIte, Nat.reduceEqDiff, ycg, ych, yci, ycj, yck, ycl, ycm, ycn, yco, ycp, ycq, ycr, zap, zao, reduceCtorEq, zbb, zbc, zba, zaz, Nat.reduceAdd, Nat.reduceMul, zaq, zar, eqPtr, zae, zaf, zab, zaa, zac, zad , hload, hstore, zal, zam, Nat.reduceAdd, Nat.reduceLeDiff, zbb, zas, zat, one, zau, zaw, zav, splice, zaj, zak, zab, zaa, ycs, yct, ycu, ycv, ycw, ycx, ycy, ycz, zan, zai, zax, zay, and_self, true_and, and_true, lenV, yda, Nat.le_refl, if_true , hp, h1, ne_eq, not_true_eq_false, fail_spec h]
      simp [RS.field, RS.fail, h1]
    | true =>
      obtain ⟨hw0, hw1⟩ := hw rfl
      by_cases h2 : r.left < w
      · simp only [F51, ↓yaa, ↓yab, ↓yac, ↓yad, ↓yae, ↓yaf, ↓yag, ↓yah, ↓yai, ↓yaj, ↓yak, ↓yal, ↓yam, ↓yan, ↓yao, ↓yap, ↓yaq, ↓yar, ↓yas, ↓yat, ↓yau, ↓yav, ↓yaw, ↓yax, yay, yaz, yba, ybb, ybc, ybd, ybe, ybf, ybg, ybh, ybi, ybj, ybk, ybl, ybm, ybn, ybo, ybp, ybq, ybr, ybs, ybt, ybu, ybv, ares, tup, ybw, ybx, yby, argsE, dval, aop, ev, evs, evo, evp, fillL, addrOf, intOf?, ybz, yca, ycb, ycc, ycd, yce, ycf, zah, zag, reduceIte, Nat.reduceEqDiff, ycg, ych, yci, ycj, yck, ycl, ycm, ycn, yco, ycp, ycq, ycr, zap, zao, reduceCtorEq, zbb, zbc, zba, zaz, Nat.reduceAdd, Nat.reduceMul, zaq, zar, eqPtr, zae, zaf, zab, zaa, zac, zad , hload, hstore, zal, zam, Nat.reduceAdd, Nat.reduceLeDiff, zbb, zas, zat, one, zau, zaw, zav, splice, zaj, zak, zab, zaa, ycs, yct, ycu, ycv, ycw, ycx, ycy, ycz, zan, zai, zax, zay, and_self, true_and, and_true, lenV, yda, Nat.le_refl, if_true , hp, h1, ne_eq, not_true_eq_false, left_spec h ho, h2, fail_spec h]
        simp [RS.field, RS.fail, h1, h2]
      · obtain ⟨m, rfl⟩ : ∃ m : Nat, w = m := ⟨w.toNat, by omega⟩
        have h3 : r.at_ + m ≤ 8 * r.s.size := by
          simp only [RS.left, if_pos h1] at h2; omega
        have hs := ho.size
        simp only [F51, ↓yaa, ↓yab, ↓yac, ↓yad, ↓yae, ↓yaf, ↓yag, ↓yah, ↓yai, ↓yaj, ↓yak, ↓yal, ↓yam, ↓yan, ↓yao, ↓yap, ↓yaq, ↓yar, ↓yas, ↓yat, ↓yau, ↓yav, ↓yaw, ↓yax, yay, yaz, yba, ybb, ybc, ybd, ybe, ybf, ybg, ybh, ybi, ybj, ybk, ybl, ybm, ybn, ybo, ybp, ybq, ybr, ybs, ybt, ybu, ybv, ares, tup, ybw, ybx, yby, argsE, dval, aop, ev, evs, evo, evp, fillL, addrOf, intOf?, ybz, yca, ycb, ycc, ycd, yce, ycf, zah, zag, reduceIte, Nat.reduceEqDiff, ycg, ych, yci, ycj, yck, ycl, ycm, ycn, yco, ycp, ycq, ycr, zap, zao, reduceCtorEq, zbb, zbc, zba, zaz, Nat.reduceAdd, Nat.reduceMul, zaq, zar, eqPtr, zae, zaf, zab, zaa, zac, zad , hload, hstore, zal, zam, Nat.reduceAdd, Nat.reduceLeDiff, zbb, zas, zat, one, zau, zaw, zav, splice, zaj, zak, zab, zaa, ycs, yct, ycu, ycv, ycw, ycx, ycy, ycz, zan, zai, zax, zay, and_self, true_and, and_true, lenV, yda, Nat.le_refl, if_true , hp, h1, ne_eq, not_true_eq_false, left_spec h ho, h2, get_spec h (by omega : m ≤ 63) h3 (by omega)]
        simp [RS.field, h1, h2]
  · simp only [F51, ↓yaa, ↓yab, ↓yac, ↓yad, ↓yae, ↓yaf, ↓yag, ↓yah, ↓yai, ↓yaj, ↓yak, ↓yal, ↓yam, ↓yan, ↓yao, ↓yap, ↓yaq, ↓yar, ↓yas, ↓yat, ↓yau, ↓yav, ↓yaw, ↓yax, yay, yaz, yba, ybb, ybc, ybd, ybe, ybf, ybg, ybh, ybi, ybj, ybk, ybl, ybm, ybn, ybo, ybp, ybq, ybr, ybs, ybt, ybu, ybv, ares, tup, ybw, ybx, yby, argsE, dval, aop, ev, evs, evo, evp, fillL, addrOf, intOf?, ybz, yca, ycb, ycc, ycd, yce, ycf, zah, zag, reduceIte, Nat.reduceEqDiff, ycg, ych, yci, ycj, yck, ycl, ycm, ycn, yco, ycp, ycq, ycr, zap, zao, reduceCtorEq, zbb, zbc, zba, zaz, Nat.reduceAdd, Nat.reduceMul, zaq, zar, eqPtr, zae, zaf, zab, zaa, zac, zad , hload, hstore, zal, zam, Nat.reduceAdd, Nat.reduceLeDiff, zbb, zas, zat, one, zau, zaw, zav, splice, zaj, zak, zab, zaa, ycs, yct, ycu, ycv, ycw, ycx, ycy, ycz, zan, zai, zax, zay, and_self, true_and, and_true, lenV, yda, Nat.le_refl, if_true , hp, h1, ne_eq, not_false_eq_true]
    simp only [RS.field, h1, ne_eq, not_false_eq_true, if_true]
    exact ⟨rfl, (setR_same h).symm⟩

/-- A new reader. -/
def newR (s : ByteArray) : RS := if 65536 < s.size then ⟨⟨#[]⟩, 0, 8⟩ else ⟨s, 0, 0⟩
theorem newR_ok (s : ByteArray) : (newR s).Ok := by
  unfold newR; split
  · exact ⟨Nat.zero_le _, by decide⟩
  · exact ⟨Nat.zero_le _, by simp only; omega⟩
theorem newReader_eq (H : Heap) (s : ByteArray) : AC tbl 21 [.string s] H = some (.pointer (some ⟨H.length, 0, none⟩), H ++ [some ⟨true, (newR s).cells⟩]) := by
  apply AC_eq
  apply AC_wp (F := F21) rfl (by simp [F21]) (.inl rfl)
  by_cases h : (65536 : Int) < (s.size : Int)
  · have h' : 65536 < s.size := by omega
    simp only [F21, ↓yaa, ↓yab, ↓yac, ↓yad, ↓yae, ↓yaf, ↓yag, ↓yah, ↓yai, ↓yaj, ↓yak, ↓yal, ↓yam, ↓yan, ↓yao, ↓yap, ↓yaq, ↓yar, ↓yas, ↓yat, ↓yau, ↓yav, ↓yaw, ↓yax, yay, yaz, yba, ybb, ybc, ybd, ybe, ybf, ybg, ybh, ybi, ybj, ybk, ybl, ybm, ybn, ybo, ybp, ybq, ybr, ybs, ybt, ybu, ybv, ares, tup, ybw, ybx, yby, argsE, dval, aop, ev, evs, evo, evp, fillL, addrOf, intOf?, ybz, yca, ycb, ycc, ycd, yce, ycf, zah, zag, reduceIte, Nat.reduceEqDiff, ycg, ych, yci, ycj, yck, ycl, ycm, ycn, yco, ycp, ycq, ycr, zap, zao, reduceCtorEq, zbb, zbc, zba, zaz, Nat.reduceAdd, Nat.reduceMul, zaq, zar, eqPtr, zae, zaf, zab, zaa, zac, zad , hload, hstore, zal, zam, Nat.reduceAdd, Nat.reduceLeDiff, zbb, zas, zat, one, zau, zaw, zav, splice, zaj, zak, zab, zaa, ycs, yct, ycu, ycv, ycw, ycx, ycy, ycz, zan, zai, zax, zay, and_self, true_and, and_true, lenV, yda, Nat.le_refl, if_true , h]
    simp [newR, h', RS.cells]; rfl
  · have h' : ¬ 65536 < s.size := by omega
    simp only [F21, ↓yaa, ↓yab, ↓yac, ↓yad, ↓yae, ↓yaf, ↓yag, ↓yah, ↓yai, ↓yaj, ↓yak, ↓yal, ↓yam, ↓yan, ↓yao, ↓yap, ↓yaq, ↓yar, ↓yas, ↓yat, ↓yau, ↓yav, ↓yaw, ↓yax, yay, yaz, yba, ybb, ybc, ybd, ybe, ybf, ybg, ybh, ybi, ybj, ybk, ybl, ybm, ybn, ybo, ybp, ybq, ybr, ybs, ybt, ybu, ybv, ares, tup, ybw, ybx, yby, argsE, dval, aop, ev, evs, evo, evp, fillL, addrOf, intOf?, ybz, yca, ycb, ycc, ycd, yce, ycf, zah, zag, reduceIte, Nat.reduceEqDiff, ycg, ych, yci, ycj, yck, ycl, ycm, ycn, yco, ycp, ycq, ycr, zap, zao, reduceCtorEq, zbb, zbc, zba, zaz, Nat.reduceAdd, Nat.reduceMul, zaq, zar, eqPtr, zae, zaf, zab, zaa, zac, zad , hload, hstore, zal, zam, Nat.reduceAdd, Nat.reduceLeDiff, zbb, zas, zat, one, zau, zaw, zav, splice, zaj, zak, zab, zaa, ycs, yct, ycu, ycv, ycw, ycx, ycy, ycz, zan, zai, zax, zay, and_self, true_and, and_true, lenV, yda, Nat.le_refl, if_true , h]
    simp [newR, h', RS.cells]; rfl

def RS.unsigned (r : RS) (w : Int) : Int × RS := let x := r.field (decide (1 ≤ w ∧ w ≤ 63)) w; ((x.1 : Int), x.2)
theorem valOf_small {s : ByteArray} {a w : Nat} (h : w ≤ 63) : valOf s a w < 9223372036854775808 := by
  have h1 := valOf_lt s a w
  have h2 : 2 ^ w ≤ 2 ^ 63 := Nat.pow_le_pow_right (by omega) h
  have : (2 : Nat) ^ 63 = 9223372036854775808 := by decide
  omega
theorem field_small {r : RS} {right : Bool} {w : Int} (hw : right = true → w ≤ 63) : (r.field right w).1 < 9223372036854775808 := by
  unfold RS.field
  split
  · simp
  · split
    · simp
    · split
      · simp
      · rename_i h1 h2 h3
        have := hw (by simpa using h2)
        exact valOf_small (by omega)
theorem runsigned_spec {H : Heap} {p : Nat} {r : RS} {w : Int} (h : RSt H p r) (ho : r.Ok) :
    AC tbl 40 [.pointer (some ⟨p, 0, none⟩), .int .i64 w] H = some (.int .i64 (r.unsigned w).1, setR H p (r.unsigned w).2) := by
  apply AC_eq
  apply AC_wp (F := F40) rfl (by simp [F40]) (.inl rfl)
  have hsm := @field_small r (decide (1 ≤ w ∧ w ≤ 63)) w (fun hr => by simp at hr; omega)
  have hsp := @rfield_spec H p r (decide (1 ≤ w ∧ w ≤ 63)) w h ho (fun hr => by simp at hr; omega)
  have hwr : IntKind.i64.wrap (((r.field (decide (1 ≤ w ∧ w ≤ 63)) w).1 : Nat) : Int) = (((r.field (decide (1 ≤ w ∧ w ≤ 63)) w).1 : Nat) : Int) := wrap_i64 (by omega) (by omega)
  by_cases h1 : 1 ≤ w
  · have e1 : decide (1 ≤ w ∧ w ≤ 63) = decide (w ≤ 63) := by simp [h1]
    rw [e1] at hsp hwr
    have e2 : r.unsigned w = (((r.field (decide (w ≤ 63)) w).1 : Int), (r.field (decide (w ≤ 63)) w).2) := by unfold RS.unsigned; rw [e1]
    rw [e2]
    simp only [F40, ↓yaa, ↓yab, ↓yac, ↓yad, ↓yae, ↓yaf, ↓yag, ↓yah, ↓yai, ↓yaj, ↓yak, ↓yal, ↓yam, ↓yan, ↓yao, ↓yap, ↓yaq, ↓yar, ↓yas, ↓yat, ↓yau, ↓yav, ↓yaw, ↓yax, yay, yaz, yba, ybb, ybc, ybd, ybe, ybf, ybg, ybh, ybi, ybj, ybk, ybl, ybm, ybn, ybo, ybp, ybq, ybr, ybs, ybt, ybu, ybv, ares, tup, ybw, ybx, yby, argsE, dval, aop, ev, evs, evo, evp, fillL, addrOf, intOf?, ybz, yca, ycb, ycc, ycd, yce, ycf, zah, zag, reduceIte, Nat.reduceEqDiff, ycg, ych, yci, ycj, yck, ycl, ycm, ycn, yco, ycp, ycq, ycr, zap, zao, reduceCtorEq, zbb, zbc, zba, zaz, Nat.reduceAdd, Nat.reduceMul, zaq, zar, eqPtr, zae, zaf, zab, zaa, zac, zad , hload, hstore, zal, zam, Nat.reduceAdd, Nat.reduceLeDiff, zbb, zas, zat, one, zau, zaw, zav, splice, zaj, zak, zab, zaa, ycs, yct, ycu, ycv, ycw, ycx, ycy, ycz, zan, zai, zax, zay, and_self, true_and, and_true, lenV, yda, Nat.le_refl, if_true , h1, hsp, hwr]
  · have e1 : decide (1 ≤ w ∧ w ≤ 63) = false := by simp [h1]
    rw [e1] at hsp hwr
    have e2 : r.unsigned w = (((r.field false w).1 : Int), (r.field false w).2) := by unfold RS.unsigned; rw [e1]
    rw [e2]
    simp only [F40, ↓yaa, ↓yab, ↓yac, ↓yad, ↓yae, ↓yaf, ↓yag, ↓yah, ↓yai, ↓yaj, ↓yak, ↓yal, ↓yam, ↓yan, ↓yao, ↓yap, ↓yaq, ↓yar, ↓yas, ↓yat, ↓yau, ↓yav, ↓yaw, ↓yax, yay, yaz, yba, ybb, ybc, ybd, ybe, ybf, ybg, ybh, ybi, ybj, ybk, ybl, ybm, ybn, ybo, ybp, ybq, ybr, ybs, ybt, ybu, ybv, ares, tup, ybw, ybx, yby, argsE, dval, aop, ev, evs, evo, evp, fillL, addrOf, intOf?, ybz, yca, ycb, ycc, ycd, yce, ycf, zah, zag, reduceIte, Nat.reduceEqDiff, ycg, ych, yci, ycj, yck, ycl, ycm, ycn, yco, ycp, ycq, ycr, zap, zao, reduceCtorEq, zbb, zbc, zba, zaz, Nat.reduceAdd, Nat.reduceMul, zaq, zar, eqPtr, zae, zaf, zab, zaa, zac, zad , hload, hstore, zal, zam, Nat.reduceAdd, Nat.reduceLeDiff, zbb, zas, zat, one, zau, zaw, zav, splice, zaj, zak, zab, zaa, ycs, yct, ycu, ycv, ycw, ycx, ycy, ycz, zan, zai, zax, zay, and_self, true_and, and_true, lenV, yda, Nat.le_refl, if_true , h1, hsp, hwr]
def RS.flag (r : RS) : Bool × RS := let x := r.field true 1; (decide (x.1 = 1), x.2)
theorem rflag_spec {H : Heap} {p : Nat} {r : RS} (h : RSt H p r) (ho : r.Ok) :
    AC tbl 41 [.pointer (some ⟨p, 0, none⟩)] H = some (.bool r.flag.1, setR H p r.flag.2) := by
  apply AC_eq
  apply AC_wp (F := F41) rfl (by simp [F41]) (.inl rfl)
  have hsp := @rfield_spec H p r true 1 h ho (fun _ => by omega)
  have e1 : decide ((((r.field true 1).1 : Nat) : Int) = 1) = decide ((r.field true 1).1 = 1) := by simp only [decide_eq_decide]; omega
  simp only [F41, ↓yaa, ↓yab, ↓yac, ↓yad, ↓yae, ↓yaf, ↓yag, ↓yah, ↓yai, ↓yaj, ↓yak, ↓yal, ↓yam, ↓yan, ↓yao, ↓yap, ↓yaq, ↓yar, ↓yas, ↓yat, ↓yau, ↓yav, ↓yaw, ↓yax, yay, yaz, yba, ybb, ybc, ybd, ybe, ybf, ybg, ybh, ybi, ybj, ybk, ybl, ybm, ybn, ybo, ybp, ybq, ybr, ybs, ybt, ybu, ybv, ares, tup, ybw, ybx, yby, argsE, dval, aop, ev, evs, evo, evp, fillL, addrOf, intOf?, ybz, yca, ycb, ycc, ycd, yce, ycf, zah, zag, reduceIte, Nat.reduceEqDiff, ycg, ych, yci, ycj, yck, ycl, ycm, ycn, yco, ycp, ycq, ycr, zap, zao, reduceCtorEq, zbb, zbc, zba, zaz, Nat.reduceAdd, Nat.reduceMul, zaq, zar, eqPtr, zae, zaf, zab, zaa, zac, zad , hload, hstore, zal, zam, Nat.reduceAdd, Nat.reduceLeDiff, zbb, zas, zat, one, zau, zaw, zav, splice, zaj, zak, zab, zaa, ycs, yct, ycu, ycv, ycw, ycx, ycy, ycz, zan, zai, zax, zay, and_self, true_and, and_true, lenV, yda, Nat.le_refl, if_true , hsp, RS.flag, e1]

end Go.Proofs.Ytejcabdejoameaa.AI

/- The reader's signed numbers and its end. -/
set_option linter.unusedSimpArgs false
namespace Go.Proofs.Ytejcabdejoameaa.AI
open Go

def RS.signed (r : RS) (w : Int) : Int × RS :=
  let x := r.field (decide (2 ≤ w ∧ w ≤ 63)) w
  (if x.2.err = 0 ∧ 2 ^ (w.toNat - 1) ≤ x.1 then (x.1 : Int) - 2 ^ w.toNat else (x.1 : Int), x.2)

theorem and64i (a : Nat) (h : a < 9223372036854775808) : binV .and (.int .i64 (a : Int)) (.int .i64 1) = some (.int .i64 ((a % 2 : Nat) : Int)) := by
  rw [binV_and]
  have : (BitVec.ofInt IntKind.i64.bits (a : Int) &&& BitVec.ofInt IntKind.i64.bits 1).toNat = a % 2 := by
    rw [BitVec.toNat_and]
    simp only [BitVec.toNat_ofInt, IntKind.bits]
    have : ((a : Int) % ((2 ^ 64 : Nat) : Int)).toNat = a := by
      rw [show ((2 ^ 64 : Nat) : Int) = 18446744073709551616 by decide]; omega
    rw [this, show ((1 : Int) % ((2 ^ 64 : Nat) : Int)).toNat = 1 by decide, Nat.and_one_is_mod]
  rw [this, wrap_i64 (by omega) (by omega)]
theorem shr64i (a s : Nat) (hs : s ≤ 64) : binV .shr (.int .i64 (a : Int)) (.int .i64 (s : Int)) = some (.int .i64 ((a / 2 ^ s : Nat) : Int)) := by
  rw [binV_shr _ _ _ _ (by omega), shr_nat .i64 a s hs]
theorem wrap_sub_wrap (a b : Int) : IntKind.i64.wrap (a - IntKind.i64.wrap b) = IntKind.i64.wrap (a - b) := by
  simp only [IntKind.wrap, IntKind.bits, IntKind.signed, zaw, ge_iff_le, decide_eq_true_eq]
  have e1 : (2 : Int) ^ 64 = 18446744073709551616 := by decide
  have e2 : (2 : Int) ^ (64 - 1) = 9223372036854775808 := by decide
  rw [e1, e2]
  split <;> split <;> split <;> omega
theorem top_bit {n m : Nat} (h : n < 2 ^ (m + 1)) : n / 2 ^ m % 2 = 1 ↔ 2 ^ m ≤ n := by
  have h0 := Nat.two_pow_pos m
  have h1 : n / 2 ^ m < 2 := by rw [Nat.div_lt_iff_lt_mul h0]; rw [Nat.pow_succ] at h; omega
  have h2 : 1 ≤ n / 2 ^ m ↔ 2 ^ m ≤ n := by rw [Nat.le_div_iff_mul_le h0]; omega
  rw [← h2]
  generalize n / 2 ^ m = q at *
  omega

theorem field_err0 {r : RS} {right : Bool} {w : Int} (h : (r.field right w).2.err = 0) : right = true ∧ r.err = 0 ∧ r.field right w = (valOf r.s r.at_ w.toNat, { r with at_ := r.at_ + w.toNat }) ∧ ¬ r.left < w := by
  unfold RS.field at h ⊢
  split at h
  · rename_i h1; exact absurd h h1
  · split at h
    · simp at h
    · split at h
      · simp at h
      · rename_i h1 h2 h3
        exact ⟨by simpa using h2, by simpa using h1, by rw [if_neg h1, if_neg h2, if_neg h3], h3⟩


end Go.Proofs.Ytejcabdejoameaa.AI

/- The writer's texts. -/
set_option linter.unusedSimpArgs false
namespace Go.Proofs.Ytejcabdejoameaa.AI
open Go

/-- A text's bits from byte i on. -/
def textBits (t : ByteArray) : List Bool := (t.data.toList.map fun b => bitsOf 8 b.toNat).flatten
def WS.text (s : WS) (most : Int) (t : ByteArray) : WS :=
  if s.err ≠ 0 then s else if lim most = false then ⟨s.bs, 1⟩
  else if most < (t.size : Int) ∨ 524288 < (s.bs.length : Int) + wd most + 8 * t.size then ⟨s.bs, 8⟩
  else ⟨s.bs ++ bitsOf (wd most) t.size ++ textBits t, s.err⟩

theorem size_list (t : ByteArray) : t.data.toList.length = t.size := by rw [Array.length_toList]; rfl
def textPre (t : ByteArray) (i : Nat) : List Bool := ((t.data.toList.take i).map fun b => bitsOf 8 b.toNat).flatten
theorem textPre_all (t : ByteArray) : textPre t t.size = textBits t := by
  unfold textPre textBits
  rw [← size_list, List.take_length]
theorem textPre_succ (t : ByteArray) (i : Nat) (b : UInt8) (h : t.data.toList[i]? = some b) : textPre t (i + 1) = textPre t i ++ bitsOf 8 b.toNat := by
  unfold textPre
  rw [List.take_add_one, h]
  simp
theorem textPre_length (t : ByteArray) (i : Nat) (h : i ≤ t.size) : (textPre t i).length = 8 * i := by
  induction i with
  | zero => simp [textPre]
  | succ i ih =>
    have hi : i < t.data.toList.length := by rw [size_list]; omega
    rw [textPre_succ t i _ (List.getElem?_eq_getElem hi), zai, ih (by omega), bitsOf_length]; omega
theorem byte_get (t : ByteArray) (i : Nat) (h : i < t.size) : ∃ b : UInt8, t[i]? = some b ∧ t.data.toList[i]? = some b := by
  have hi : i < t.data.toList.length := by rw [size_list]; exact h
  refine ⟨t.data.toList[i], ?_, List.getElem?_eq_getElem hi⟩
  rw [getElem?_pos t i h]; rfl

theorem wd_le {n : Int} (h : n < 9223372036854775808) : wd n ≤ 63 := by
  unfold wd; split
  · omega
  · have := (@blen_le n.toNat 63).2 (by omega); omega

theorem text_spec {H : Heap} {p : Nat} {o : Option Nat} {s : WS} {most : Int} {t : ByteArray} (h : WSt H p o s.bs s.err) (hlen : s.bs.length ≤ 524288) (hm : Is64 most) (ht : t.size ≤ 1000000000000000) {K : Value → Heap → Prop}
    (hk : Wrote H p o (s.text most t) K) : Op1 (AC tbl 38 [.pointer (some ⟨p, 0, none⟩), .int .i64 most, .string t] H) K := by
  apply AC_wp (F := F38) rfl (by simp [F38]) (.inl rfl)
  obtain ⟨d, hr, hb, hd⟩ := h.ex
  have hp := hr.blk
  have hpl := hget_lt hp
  have setE : ∀ err', s.text most t = ⟨s.bs, err'⟩ → K (.tuple #[]) (H.set p (some ⟨true, [sliceOf o d, .int .i64 (s.bs.length : Int), .int .i64 err']⟩)) := fun err' he => by
    refine hk _ o ?_ ((Frm.refl _ _).set _ (by simp)) (fun q hq => .inl hq)
    rw [he]
    exact ⟨d, hr.setErr err', hb, hd⟩
  have hwd := wd_le (n := most) hm.2
  by_cases h1 : s.err = 0
  · have c1 : decide (s.err ≠ 0) = false := by simp [h1]
    cases h2 : lim most with
    | false =>
      simp only [F38, ↓yaa, ↓yab, ↓yac, ↓yad, ↓yae, ↓yaf, ↓yag, ↓yah, ↓yai, ↓yaj, ↓yak, ↓yal, ↓yam, ↓yan, ↓yao, ↓yap, ↓yaq, ↓yar, ↓yas, ↓yat, ↓yau, ↓yav, ↓yaw, ↓yax, yay, yaz, yba, ybb, ybc, ybd, ybe, ybf, ybg, ybh, ybi, ybj, ybk, ybl, ybm, ybn, ybo, ybp, ybq, ybr, ybs, ybt, ybu, ybv, ares, tup, ybw, ybx, yby, argsE, dval, aop, ev, evs, evo, evp, fillL, addrOf, intOf?, ybz, yca, ycb, ycc, ycd, yce, ycf, zah, zag, reduceIte, Nat.reduceEqDiff, ycg, ych, yci, ycj, yck, ycl, ycm, ycn, yco, ycp, ycq, ycr, zap, zao, reduceCtorEq, zbb, zbc, zba, zaz, Nat.reduceAdd, Nat.reduceMul, zaq, zar, eqPtr, zae, zaf, zab, zaa, zac, zad , hload, hstore, zal, zam, Nat.reduceAdd, Nat.reduceLeDiff, zbb, zas, zat, one, zau, zaw, zav, splice, zaj, zak, zab, zaa, ycs, yct, ycu, ycv, ycw, ycx, ycy, ycz, zan, zai, zax, zay, and_self, true_and, and_true, lenV, yda, Nat.le_refl, if_true , hp, c1, limit, h2]
      exact setE 1 (by simp [WS.text, h1, h2])
    | true =>
      have hw1 : IntKind.i64.wrap (8 * (t.size : Int)) = 8 * (t.size : Int) := wrap_i64 (by omega) (by omega)
      have hw2 : IntKind.i64.wrap ((s.bs.length : Int) + (wd most : Int)) = (s.bs.length : Int) + (wd most : Int) := wrap_i64 (by omega) (by omega)
      have hw3 : IntKind.i64.wrap ((s.bs.length : Int) + (wd most : Int) + 8 * (t.size : Int)) = (s.bs.length : Int) + (wd most : Int) + 8 * (t.size : Int) := wrap_i64 (by omega) (by omega)
      by_cases h3 : most < (t.size : Int)
      · simp only [F38, ↓yaa, ↓yab, ↓yac, ↓yad, ↓yae, ↓yaf, ↓yag, ↓yah, ↓yai, ↓yaj, ↓yak, ↓yal, ↓yam, ↓yan, ↓yao, ↓yap, ↓yaq, ↓yar, ↓yas, ↓yat, ↓yau, ↓yav, ↓yaw, ↓yax, yay, yaz, yba, ybb, ybc, ybd, ybe, ybf, ybg, ybh, ybi, ybj, ybk, ybl, ybm, ybn, ybo, ybp, ybq, ybr, ybs, ybt, ybu, ybv, ares, tup, ybw, ybx, yby, argsE, dval, aop, ev, evs, evo, evp, fillL, addrOf, intOf?, ybz, yca, ycb, ycc, ycd, yce, ycf, zah, zag, reduceIte, Nat.reduceEqDiff, ycg, ych, yci, ycj, yck, ycl, ycm, ycn, yco, ycp, ycq, ycr, zap, zao, reduceCtorEq, zbb, zbc, zba, zaz, Nat.reduceAdd, Nat.reduceMul, zaq, zar, eqPtr, zae, zaf, zab, zaa, zac, zad , hload, hstore, zal, zam, Nat.reduceAdd, Nat.reduceLeDiff, zbb, zas, zat, one, zau, zaw, zav, splice, zaj, zak, zab, zaa, ycs, yct, ycu, ycv, ycw, ycx, ycy, ycz, zan, zai, zax, zay, and_self, true_and, and_true, lenV, yda, Nat.le_refl, if_true , hp, c1, limit, h2, h3]
        exact setE 8 (by simp [WS.text, h1, h2, h3])
      · by_cases h4 : 524288 < (s.bs.length : Int) + wd most + 8 * t.size
        · simp only [F38, ↓yaa, ↓yab, ↓yac, ↓yad, ↓yae, ↓yaf, ↓yag, ↓yah, ↓yai, ↓yaj, ↓yak, ↓yal, ↓yam, ↓yan, ↓yao, ↓yap, ↓yaq, ↓yar, ↓yas, ↓yat, ↓yau, ↓yav, ↓yaw, ↓yax, yay, yaz, yba, ybb, ybc, ybd, ybe, ybf, ybg, ybh, ybi, ybj, ybk, ybl, ybm, ybn, ybo, ybp, ybq, ybr, ybs, ybt, ybu, ybv, ares, tup, ybw, ybx, yby, argsE, dval, aop, ev, evs, evo, evp, fillL, addrOf, intOf?, ybz, yca, ycb, ycc, ycd, yce, ycf, zah, zag, reduceIte, Nat.reduceEqDiff, ycg, ych, yci, ycj, yck, ycl, ycm, ycn, yco, ycp, ycq, ycr, zap, zao, reduceCtorEq, zbb, zbc, zba, zaz, Nat.reduceAdd, Nat.reduceMul, zaq, zar, eqPtr, zae, zaf, zab, zaa, zac, zad , hload, hstore, zal, zam, Nat.reduceAdd, Nat.reduceLeDiff, zbb, zas, zat, one, zau, zaw, zav, splice, zaj, zak, zab, zaa, ycs, yct, ycu, ycv, ycw, ycx, ycy, ycz, zan, zai, zax, zay, and_self, true_and, and_true, lenV, yda, Nat.le_refl, if_true , hp, c1, limit, h2, h3, width most hm.2, hw1, hw2, hw3, h4]
          exact setE 8 (by simp [WS.text, h1, h2, h4])
        · simp only [F38, ↓yaa, ↓yab, ↓yac, ↓yad, ↓yae, ↓yaf, ↓yag, ↓yah, ↓yai, ↓yaj, ↓yak, ↓yal, ↓yam, ↓yan, ↓yao, ↓yap, ↓yaq, ↓yar, ↓yas, ↓yat, ↓yau, ↓yav, ↓yaw, ↓yax, yay, yaz, yba, ybb, ybc, ybd, ybe, ybf, ybg, ybh, ybi, ybj, ybk, ybl, ybm, ybn, ybo, ybp, ybq, ybr, ybs, ybt, ybu, ybv, ares, tup, ybw, ybx, yby, argsE, dval, aop, ev, evs, evo, evp, fillL, addrOf, intOf?, ybz, yca, ycb, ycc, ycd, yce, ycf, zah, zag, reduceIte, Nat.reduceEqDiff, ycg, ych, yci, ycj, yck, ycl, ycm, ycn, yco, ycp, ycq, ycr, zap, zao, reduceCtorEq, zbb, zbc, zba, zaz, Nat.reduceAdd, Nat.reduceMul, zaq, zar, eqPtr, zae, zaf, zab, zaa, zac, zad , hload, hstore, zal, zam, Nat.reduceAdd, Nat.reduceLeDiff, zbb, zas, zat, one, zau, zaw, zav, splice, zaj, zak, zab, zaa, ycs, yct, ycu, ycv, ycw, ycx, ycy, ycz, zan, zai, zax, zay, and_self, true_and, and_true, lenV, yda, Nat.le_refl, if_true , hp, c1, limit, h2, h3, width most hm.2, hw1, hw2, hw3, h4]
          have hsz : IntKind.u64.wrap (t.size : Int) = (t.size : Int) := wrap_u64 (by omega) (by omega)
          rw [hsz]
          refine put_spec (by omega) (by omega) (by omega) h _ fun H1 o1 k1 k2 k3 => ?_
          simp only [↓yaa, ↓yab, ↓yac, ↓yad, ↓yae, ↓yaf, ↓yag, ↓yah, ↓yai, ↓yaj, ↓yak, ↓yal, ↓yam, ↓yan, ↓yao, ↓yap, ↓yaq, ↓yar, ↓yas, ↓yat, ↓yau, ↓yav, ↓yaw, ↓yax, yay, yaz, yba, ybb, ybc, ybd, ybe, ybf, ybg, ybh, ybi, ybj, ybk, ybl, ybm, ybn, ybo, ybp, ybq, ybr, ybs, ybt, ybu, ybv, ares, tup, ybw, ybx, yby, argsE, dval, aop, ev, evs, evo, evp, fillL, addrOf, intOf?, ybz, yca, ycb, ycc, ycd, yce, ycf, zah, zag, reduceIte, Nat.reduceEqDiff, ycg, ych, yci, ycj, yck, ycl, ycm, ycn, yco, ycp, ycq, ycr, zap, zao, reduceCtorEq, zbb, zbc, zba, zaz, Nat.reduceAdd, Nat.reduceMul, zaq, zar, eqPtr, zae, zaf, zab, zaa, zac, zad ]
          have hfin : s.text most t = ⟨s.bs ++ bitsOf (wd most) t.size ++ textBits t, s.err⟩ := by simp [WS.text, h1, h2, h3, h4]
          unfold Wrote at hk
          rw [hfin] at hk
          clear hfin setE
          apply AW_loop_inv (fun j e H2 => j ≤ t.size ∧ e = [(0, .pointer (some ⟨p, 0, none⟩)), (2, .string t), (15, .int .i64 t.size), (16, .int .i64 ((t.size - j : Nat) : Int))] ∧
            ∃ o2, WSt H2 p o2 (s.bs ++ bitsOf (wd most) t.size ++ textPre t (t.size - j)) s.err ∧ Frm (p :: o.toList) H H2 ∧ (∀ q, o2 = some q → o = some q ∨ H.length ≤ q)) _ t.size
          · refine ⟨Nat.le_refl _, by rw [Nat.sub_self]; rfl, o1, ?_, k2, k3⟩
            rw [Nat.sub_self]; simpa [textPre] using k1
          · rintro j e H2 ⟨hj, rfl, o2, m1, m2, m3⟩
            cases j with
            | zero =>
              have g0 : ¬ ((t.size - 0 : Nat) : Int) < (t.size : Int) := by omega
              simp only [↓yaa, ↓yab, ↓yac, ↓yad, ↓yae, ↓yaf, ↓yag, ↓yah, ↓yai, ↓yaj, ↓yak, ↓yal, ↓yam, ↓yan, ↓yao, ↓yap, ↓yaq, ↓yar, ↓yas, ↓yat, ↓yau, ↓yav, ↓yaw, ↓yax, yay, yaz, yba, ybb, ybc, ybd, ybe, ybf, ybg, ybh, ybi, ybj, ybk, ybl, ybm, ybn, ybo, ybp, ybq, ybr, ybs, ybt, ybu, ybv, ares, tup, ybw, ybx, yby, argsE, dval, aop, ev, evs, evo, evp, fillL, addrOf, intOf?, ybz, yca, ycb, ycc, ycd, yce, ycf, zah, zag, reduceIte, Nat.reduceEqDiff, ycg, ych, yci, ycj, yck, ycl, ycm, ycn, yco, ycp, ycq, ycr, zap, zao, reduceCtorEq, zbb, zbc, zba, zaz, Nat.reduceAdd, Nat.reduceMul, zaq, zar, eqPtr, zae, zaf, zab, zaa, zac, zad , g0]
              refine hk _ o2 ?_ m2 m3
              rw [Nat.sub_zero, textPre_all] at m1
              exact m1
            | succ j =>
              have g0 : ((t.size - (j + 1) : Nat) : Int) < (t.size : Int) := by omega
              have hi : t.size - (j + 1) < t.size := by omega
              obtain ⟨b, hb1, hb2⟩ := byte_get t _ hi
              have hbw : IntKind.u64.wrap (b.toNat : Int) = (b.toNat : Int) := wrap_u64 (by omega) (by have := b.toNat_lt; omega)
              have g1 : (0 : Int) ≤ ((t.size - (j + 1) : Nat) : Int) := by omega
              have g2 : IntKind.i64.wrap (((t.size - (j + 1) : Nat) : Int) + 1) = ((t.size - j : Nat) : Int) := by rw [wrap_i64 (by omega) (by omega)]; omega
              simp only [↓yaa, ↓yab, ↓yac, ↓yad, ↓yae, ↓yaf, ↓yag, ↓yah, ↓yai, ↓yaj, ↓yak, ↓yal, ↓yam, ↓yan, ↓yao, ↓yap, ↓yaq, ↓yar, ↓yas, ↓yat, ↓yau, ↓yav, ↓yaw, ↓yax, yay, yaz, yba, ybb, ybc, ybd, ybe, ybf, ybg, ybh, ybi, ybj, ybk, ybl, ybm, ybn, ybo, ybp, ybq, ybr, ybs, ybt, ybu, ybv, ares, tup, ybw, ybx, yby, argsE, dval, aop, ev, evs, evo, evp, fillL, addrOf, intOf?, ybz, yca, ycb, ycc, ycd, yce, ycf, zah, zag, reduceIte, Nat.reduceEqDiff, ycg, ych, yci, ycj, yck, ycl, ycm, ycn, yco, ycp, ycq, ycr, zap, zao, reduceCtorEq, zbb, zbc, zba, zaz, Nat.reduceAdd, Nat.reduceMul, zaq, zar, eqPtr, zae, zaf, zab, zaa, zac, zad , g0, g1, Int.toNat_natCast, hb1, hbw]
              refine put_spec (p := p) (o := o2) (w := 8) (by have := b.toNat_lt; omega) (by omega) ?_ m1 _ fun H3 o3 n1 n2 n3 => ?_
              · rw [zai, zai, bitsOf_length, textPre_length _ _ (by omega)]; omega
              · simp only [↓yaa, ↓yab, ↓yac, ↓yad, ↓yae, ↓yaf, ↓yag, ↓yah, ↓yai, ↓yaj, ↓yak, ↓yal, ↓yam, ↓yan, ↓yao, ↓yap, ↓yaq, ↓yar, ↓yas, ↓yat, ↓yau, ↓yav, ↓yaw, ↓yax, yay, yaz, yba, ybb, ybc, ybd, ybe, ybf, ybg, ybh, ybi, ybj, ybk, ybl, ybm, ybn, ybo, ybp, ybq, ybr, ybs, ybt, ybu, ybv, ares, tup, ybw, ybx, yby, argsE, dval, aop, ev, evs, evo, evp, fillL, addrOf, intOf?, ybz, yca, ycb, ycc, ycd, yce, ycf, zah, zag, reduceIte, Nat.reduceEqDiff, ycg, ych, yci, ycj, yck, ycl, ycm, ycn, yco, ycp, ycq, ycr, zap, zao, reduceCtorEq, zbb, zbc, zba, zaz, Nat.reduceAdd, Nat.reduceMul, zaq, zar, eqPtr, zae, zaf, zab, zaa, zac, zad , g2]
                refine ⟨j, by omega, by omega, rfl, o3, ?_, m2.trans n2 ?_, fun q hq => ?_⟩
                · rw [show t.size - j = t.size - (j + 1) + 1 by omega, textPre_succ t _ b hb2]
                  simpa using n1
                · intro i hi
                  rcases List.mem_cons.1 hi with rfl | hi
                  · left; simp
                  · rcases m3 i (by simpa [Option.mem_toList] using hi) with h5 | h5
                    · left; simp [h5]
                    · right; exact h5
                · rcases n3 q hq with h5 | h5
                  · exact m3 q h5
                  · right; have := m2.1; omega
  · have c1 : decide (s.err ≠ 0) = true := by simp [h1]
    simp only [F38, ↓yaa, ↓yab, ↓yac, ↓yad, ↓yae, ↓yaf, ↓yag, ↓yah, ↓yai, ↓yaj, ↓yak, ↓yal, ↓yam, ↓yan, ↓yao, ↓yap, ↓yaq, ↓yar, ↓yas, ↓yat, ↓yau, ↓yav, ↓yaw, ↓yax, yay, yaz, yba, ybb, ybc, ybd, ybe, ybf, ybg, ybh, ybi, ybj, ybk, ybl, ybm, ybn, ybo, ybp, ybq, ybr, ybs, ybt, ybu, ybv, ares, tup, ybw, ybx, yby, argsE, dval, aop, ev, evs, evo, evp, fillL, addrOf, intOf?, ybz, yca, ycb, ycc, ycd, yce, ycf, zah, zag, reduceIte, Nat.reduceEqDiff, ycg, ych, yci, ycj, yck, ycl, ycm, ycn, yco, ycp, ycq, ycr, zap, zao, reduceCtorEq, zbb, zbc, zba, zaz, Nat.reduceAdd, Nat.reduceMul, zaq, zar, eqPtr, zae, zaf, zab, zaa, zac, zad , hload, hstore, zal, zam, Nat.reduceAdd, Nat.reduceLeDiff, zbb, zas, zat, one, zau, zaw, zav, splice, zaj, zak, zab, zaa, ycs, yct, ycu, ycv, ycw, ycx, ycy, ycz, zan, zai, zax, zay, and_self, true_and, and_true, lenV, yda, Nat.le_refl, if_true , hp, c1]
    refine hk H o ?_ (Frm.refl _ _) (fun q hq => .inl hq)
    simpa [WS.text, h1] using h

end Go.Proofs.Ytejcabdejoameaa.AI

/- The reader's texts. -/
set_option linter.unusedSimpArgs false
namespace Go.Proofs.Ytejcabdejoameaa.AI
open Go

/-- The bytes that n times eight bits make. -/
def readL (s : ByteArray) (a n : Nat) : List Nat := (List.range n).map fun i => valOf s (a + 8 * i) 8
def RS.text (r : RS) (most : Int) : ByteArray × RS :=
  let x := r.field (lim most) (wd most)
  if x.2.err ≠ 0 then (⟨#[]⟩, x.2) else if most < (x.1 : Int) then (⟨#[]⟩, { x.2 with err := 2 }) else if x.2.left < 8 * (x.1 : Int) then (⟨#[]⟩, { x.2 with err := 9 })
  else (strOf (readL x.2.s x.2.at_ x.1), { x.2 with at_ := x.2.at_ + 8 * x.1 })

theorem readL_length (s : ByteArray) (a n : Nat) : (readL s a n).length = n := by simp [readL]
theorem readL_succ (s : ByteArray) (a n : Nat) : readL s a (n + 1) = readL s a n ++ [valOf s (a + 8 * n) 8] := by simp [readL, List.range_succ]
theorem readL_small (s : ByteArray) (a n : Nat) : ∀ x ∈ readL s a n, x < 256 := by
  intro x hx
  simp only [readL, List.mem_map] at hx
  obtain ⟨i, _, rfl⟩ := hx
  exact valOf_lt s _ 8

/-- What is read so far, and zeros. -/
def partL (s : ByteArray) (a i n : Nat) : List Nat := readL s a i ++ List.replicate (n - i) 0
theorem partL_length {s : ByteArray} {a i n : Nat} (h : i ≤ n) : (partL s a i n).length = n := by simp [partL, readL_length]; omega
theorem partL_zero (s : ByteArray) (a n : Nat) : partL s a 0 n = List.replicate n 0 := by simp [partL, readL]
theorem partL_all (s : ByteArray) (a n : Nat) : partL s a n n = readL s a n := by simp [partL]
theorem partL_set {s : ByteArray} {a i n : Nat} (h : i < n) : (partL s a i n).set i (valOf s (a + 8 * i) 8) = partL s a (i + 1) n := by
  unfold partL
  rw [List.set_append_right _ _ (by rw [readL_length]; exact Nat.le_refl _), readL_length, Nat.sub_self, readL_succ]
  obtain ⟨k, hk⟩ : ∃ k, n - i = k + 1 := ⟨n - i - 1, by omega⟩
  rw [hk, show n - (i + 1) = k by omega, List.replicate_succ, zaj]
  simp

theorem flat_zeros (n : Nat) : (List.replicate n [Value.int .u8 0]).flatten = u8s (List.replicate n 0) := by
  induction n with
  | zero => rfl
  | succ n ih => rw [List.replicate_succ, List.flatten_cons, ih]; rfl

section
variable {H : Heap} {p : Nat} {r r' : RS} {x y : Option Blk}
theorem gh_get : hget (setR H p r ++ [x]) H.length = x := by rw [hget_app]; simp [setR_length]
theorem gh_st (hp : p < H.length) : RSt (setR H p r ++ [x]) p r := by
  unfold RSt; rw [hget_append_lt (by simpa [setR_length] using hp)]; exact setR_st hp r
theorem gh_set : (setR H p r ++ [x]).set H.length y = setR H p r ++ [y] := by
  rw [List.set_append_right _ _ (by simp [setR_length])]; simp [setR_length]
theorem gh_setR (hp : p < H.length) : setR (setR H p r ++ [x]) p r' = setR H p r' ++ [x] := by
  unfold setR
  rw [List.set_append_left _ _ (by simpa using hp), List.set_set]
end

theorem rtext_spec {H : Heap} {p : Nat} {r : RS} {most : Int} (h : RSt H p r) (ho : r.Ok) (hm : Is64 most) {K : Value → Heap → Prop}
    (hk : ∀ H', RSt H' p (r.text most).2 → Frm [p] H H' → K (.string (r.text most).1) H') : Op1 (AC tbl 42 [.pointer (some ⟨p, 0, none⟩), .int .i64 most] H) K := by
  apply AC_wp (F := F42) rfl (by simp [F42]) (.inl rfl)
  have hwd := wd_le (n := most) hm.2
  have hpl := h.lt
  have hsm := @field_small r (lim most) (wd most) (fun _ => by omega)
  have hsp := @rfield_spec H p r (lim most) (wd most) h ho (fun _ => by omega)
  have he0 := @field_err0 r (lim most) (wd most)
  have hok := RS.field_ok ho (right := lim most) (w := (wd most : Int)) (fun _ => by omega)
  unfold RS.text at hk
  generalize hx : r.field (lim most) (wd most) = x at *
  obtain ⟨n, r'⟩ := x
  simp only at hsm hsp he0 hk hok
  have hwr : IntKind.i64.wrap (n : Int) = (n : Int) := wrap_i64 (by omega) (by omega)
  have hst := setR_st hpl r'
  have hc := cells_get hst
  by_cases h1 : r'.err = 0
  · obtain ⟨hr, hr0, hf, hl⟩ := he0 h1
    have hlm : 1 ≤ most ∧ most ≤ 4095 := by simpa [lim] using hr
    by_cases h2 : most < (n : Int)
    · simp only [F42, ↓yaa, ↓yab, ↓yac, ↓yad, ↓yae, ↓yaf, ↓yag, ↓yah, ↓yai, ↓yaj, ↓yak, ↓yal, ↓yam, ↓yan, ↓yao, ↓yap, ↓yaq, ↓yar, ↓yas, ↓yat, ↓yau, ↓yav, ↓yaw, ↓yax, yay, yaz, yba, ybb, ybc, ybd, ybe, ybf, ybg, ybh, ybi, ybj, ybk, ybl, ybm, ybn, ybo, ybp, ybq, ybr, ybs, ybt, ybu, ybv, ares, tup, ybw, ybx, yby, argsE, dval, aop, ev, evs, evo, evp, fillL, addrOf, intOf?, ybz, yca, ycb, ycc, ycd, yce, ycf, zah, zag, reduceIte, Nat.reduceEqDiff, ycg, ych, yci, ycj, yck, ycl, ycm, ycn, yco, ycp, ycq, ycr, zap, zao, reduceCtorEq, zbb, zbc, zba, zaz, Nat.reduceAdd, Nat.reduceMul, zaq, zar, eqPtr, zae, zaf, zab, zaa, zac, zad , hload, hstore, zal, zam, Nat.reduceAdd, Nat.reduceLeDiff, zbb, zas, zat, one, zau, zaw, zav, splice, zaj, zak, zab, zaa, ycs, yct, ycu, ycv, ycw, ycx, ycy, ycz, zan, zai, zax, zay, and_self, true_and, and_true, lenV, yda, Nat.le_refl, if_true , limit, width most hm.2, hsp, hwr, hc, h1, ne_eq, not_true_eq_false, h2, fail_spec hst]
      rw [if_neg (by simp [h1]), if_pos h2] at hk
      have := hk (setR (setR H p r') p (r'.fail 2)) ?_ ?_
      · exact this
      · rw [setR_setR]; simp only [RS.fail, h1, if_true]; exact setR_st hpl _
      · rw [setR_setR]; exact setR_frm _ _ _
    · have hleft := left_spec hst hok
      have w1 : IntKind.i64.wrap (8 * (n : Int)) = 8 * (n : Int) := wrap_i64 (by omega) (by omega)
      by_cases h3 : r'.left < 8 * (n : Int)
      · simp only [F42, ↓yaa, ↓yab, ↓yac, ↓yad, ↓yae, ↓yaf, ↓yag, ↓yah, ↓yai, ↓yaj, ↓yak, ↓yal, ↓yam, ↓yan, ↓yao, ↓yap, ↓yaq, ↓yar, ↓yas, ↓yat, ↓yau, ↓yav, ↓yaw, ↓yax, yay, yaz, yba, ybb, ybc, ybd, ybe, ybf, ybg, ybh, ybi, ybj, ybk, ybl, ybm, ybn, ybo, ybp, ybq, ybr, ybs, ybt, ybu, ybv, ares, tup, ybw, ybx, yby, argsE, dval, aop, ev, evs, evo, evp, fillL, addrOf, intOf?, ybz, yca, ycb, ycc, ycd, yce, ycf, zah, zag, reduceIte, Nat.reduceEqDiff, ycg, ych, yci, ycj, yck, ycl, ycm, ycn, yco, ycp, ycq, ycr, zap, zao, reduceCtorEq, zbb, zbc, zba, zaz, Nat.reduceAdd, Nat.reduceMul, zaq, zar, eqPtr, zae, zaf, zab, zaa, zac, zad , hload, hstore, zal, zam, Nat.reduceAdd, Nat.reduceLeDiff, zbb, zas, zat, one, zau, zaw, zav, splice, zaj, zak, zab, zaa, ycs, yct, ycu, ycv, ycw, ycx, ycy, ycz, zan, zai, zax, zay, and_self, true_and, and_true, lenV, yda, Nat.le_refl, if_true , limit, width most hm.2, hsp, hwr, hc, h1, ne_eq, not_true_eq_false, h2, w1, hleft, h3, fail_spec hst]
        rw [if_neg (by simp [h1]), if_neg h2, if_pos h3] at hk
        have := hk (setR (setR H p r') p (r'.fail 9)) ?_ ?_
        · exact this
        · rw [setR_setR]; simp only [RS.fail, h1, if_true]; exact setR_st hpl _
        · rw [setR_setR]; exact setR_frm _ _ _
      · rw [if_neg (by simp [h1]), if_neg h2, if_neg h3] at hk
        have hn : n ≤ 4095 := by omega
        have hroom : r'.at_ + 8 * n ≤ 8 * r'.s.size := by
          simp only [RS.left, if_pos h1] at h3; omega
        have hmk : (0 : Int) ≤ (n : Int) ∧ (n : Int) ≤ (n : Int) ∧ (n : Int) ≤ 1000000000 ∧ (1 : Nat) ≤ 1000 := by omega
        have hsize := hok.size
        simp only [F42, ↓yaa, ↓yab, ↓yac, ↓yad, ↓yae, ↓yaf, ↓yag, ↓yah, ↓yai, ↓yaj, ↓yak, ↓yal, ↓yam, ↓yan, ↓yao, ↓yap, ↓yaq, ↓yar, ↓yas, ↓yat, ↓yau, ↓yav, ↓yaw, ↓yax, yay, yaz, yba, ybb, ybc, ybd, ybe, ybf, ybg, ybh, ybi, ybj, ybk, ybl, ybm, ybn, ybo, ybp, ybq, ybr, ybs, ybt, ybu, ybv, ares, tup, ybw, ybx, yby, argsE, dval, aop, ev, evs, evo, evp, fillL, addrOf, intOf?, ybz, yca, ycb, ycc, ycd, yce, ycf, zah, zag, reduceIte, Nat.reduceEqDiff, ycg, ych, yci, ycj, yck, ycl, ycm, ycn, yco, ycp, ycq, ycr, zap, zao, reduceCtorEq, zbb, zbc, zba, zaz, Nat.reduceAdd, Nat.reduceMul, zaq, zar, eqPtr, zae, zaf, zab, zaa, zac, zad , hload, hstore, zal, zam, Nat.reduceAdd, Nat.reduceLeDiff, zbb, zas, zat, one, zau, zaw, zav, splice, zaj, zak, zab, zaa, ycs, yct, ycu, ycv, ycw, ycx, ycy, ycz, zan, zai, zax, zay, and_self, true_and, and_true, lenV, yda, Nat.le_refl, if_true , limit, width most hm.2, hsp, hwr, hc, h1, ne_eq, not_true_eq_false, h2, w1, hleft, h3, hmk, Int.toNat_natCast, flat_zeros, setR_length]
        apply AW_loop_inv (fun j e H1 => j ≤ n ∧ e = [(6, .func (.func 48) #[.pointer (some ⟨p, 0, none⟩)] #[]), (7, .slice (some ⟨H.length, 0, none⟩) n 1), (41, .int .i64 (n : Int)), (42, .int .i64 ((n - j : Nat) : Int))] ∧
          H1 = setR H p { r' with at_ := r'.at_ + 8 * (n - j) } ++ [some ⟨true, u8s (partL r'.s r'.at_ (n - j) n)⟩]) _ n
        · refine ⟨Nat.le_refl _, by rw [Nat.sub_self]; rfl, ?_⟩
          rw [Nat.sub_self, partL_zero]; rfl
        · rintro j e H1 ⟨hj, rfl, rfl⟩
          cases j with
          | zero =>
            have g0 : ¬ (n : Int) < (n : Int) := by omega
            simp only [Nat.sub_zero, partL_all]
            by_cases hn0 : n = 0
            · subst hn0
              simp only [↓yaa, ↓yab, ↓yac, ↓yad, ↓yae, ↓yaf, ↓yag, ↓yah, ↓yai, ↓yaj, ↓yak, ↓yal, ↓yam, ↓yan, ↓yao, ↓yap, ↓yaq, ↓yar, ↓yas, ↓yat, ↓yau, ↓yav, ↓yaw, ↓yax, yay, yaz, yba, ybb, ybc, ybd, ybe, ybf, ybg, ybh, ybi, ybj, ybk, ybl, ybm, ybn, ybo, ybp, ybq, ybr, ybs, ybt, ybu, ybv, ares, tup, ybw, ybx, yby, argsE, dval, aop, ev, evs, evo, evp, fillL, addrOf, intOf?, ybz, yca, ycb, ycc, ycd, yce, ycf, zah, zag, reduceIte, Nat.reduceEqDiff, ycg, ych, yci, ycj, yck, ycl, ycm, ycn, yco, ycp, ycq, ycr, zap, zao, reduceCtorEq, zbb, zbc, zba, zaz, Nat.reduceAdd, Nat.reduceMul, zaq, zar, eqPtr, zae, zaf, zab, zaa, zac, zad , hload, hstore, zal, zam, Nat.reduceAdd, Nat.reduceLeDiff, zbb, zas, zat, one, zau, zaw, zav, splice, zaj, zak, zab, zaa, ycs, yct, ycu, ycv, ycw, ycx, ycy, ycz, zan, zai, zax, zay, and_self, true_and, and_true, lenV, yda, Nat.le_refl, if_true , g0, bytesOf?]
              exact hk _ (gh_st hpl) ((setR_frm _ _ _).push _)
            · have hl1 : 0 + n * 1 ≤ (u8s (readL r'.s r'.at_ n)).length := by rw [u8s_length, readL_length]; omega
              have ht : List.take (n * 1) (List.drop 0 (u8s (readL r'.s r'.at_ n))) = u8s (readL r'.s r'.at_ n) := by
                rw [List.drop_zero, Nat.mul_one]
                exact List.take_of_length_le (by rw [u8s_length, readL_length]; exact Nat.le_refl _)
              rw [zaz] at hl1
              simp only [↓yaa, ↓yab, ↓yac, ↓yad, ↓yae, ↓yaf, ↓yag, ↓yah, ↓yai, ↓yaj, ↓yak, ↓yal, ↓yam, ↓yan, ↓yao, ↓yap, ↓yaq, ↓yar, ↓yas, ↓yat, ↓yau, ↓yav, ↓yaw, ↓yax, yay, yaz, yba, ybb, ybc, ybd, ybe, ybf, ybg, ybh, ybi, ybj, ybk, ybl, ybm, ybn, ybo, ybp, ybq, ybr, ybs, ybt, ybu, ybv, ares, tup, ybw, ybx, yby, argsE, dval, aop, ev, evs, evo, evp, fillL, addrOf, intOf?, ybz, yca, ycb, ycc, ycd, yce, ycf, zah, zag, reduceIte, Nat.reduceEqDiff, ycg, ych, yci, ycj, yck, ycl, ycm, ycn, yco, ycp, ycq, ycr, zap, zao, reduceCtorEq, zbb, zbc, zba, zaz, Nat.reduceAdd, Nat.reduceMul, zaq, zar, eqPtr, zae, zaf, zab, zaa, zac, zad , hload, hstore, zal, zam, Nat.reduceAdd, Nat.reduceLeDiff, zbb, zas, zat, one, zau, zaw, zav, splice, zaj, zak, zab, zaa, ycs, yct, ycu, ycv, ycw, ycx, ycy, ycz, zan, zai, zax, zay, and_self, true_and, and_true, lenV, yda, Nat.le_refl, if_true , g0, hn0, gh_get, hl1, ht, bytes_u8s _ (readL_small _ _ _)]
              exact hk _ (gh_st hpl) ((setR_frm _ _ _).push _)
          | succ j =>
            have g0 : ((n - (j + 1) : Nat) : Int) < (n : Int) := by omega
            have hi : n - (j + 1) < n := by omega
            have g1 : (0 : Int) ≤ ((n - (j + 1) : Nat) : Int) ∧ ((n - (j + 1) : Nat) : Int) < (n : Int) := by omega
            have g2 : IntKind.i64.wrap (((n - (j + 1) : Nat) : Int) + 1) = ((n - j : Nat) : Int) := by rw [wrap_i64 (by omega) (by omega)]; omega
            have hget8 := @get_spec (setR H p { r' with at_ := r'.at_ + 8 * (n - (j + 1)) } ++ [some ⟨true, u8s (partL r'.s r'.at_ (n - (j + 1)) n)⟩]) p { r' with at_ := r'.at_ + 8 * (n - (j + 1)) } 8 (gh_st hpl) (by omega) (by simp only; omega) (by simp only; omega)
            rw [gh_setR hpl] at hget8
            simp only [show ((8 : Nat) : Int) = 8 from rfl] at hget8
            have hval := valOf_lt r'.s (r'.at_ + 8 * (n - (j + 1))) 8
            have hg3 : n - (j + 1) + 1 ≤ (u8s (partL r'.s r'.at_ (n - (j + 1)) n)).length := by rw [u8s_length, partL_length (by omega)]; omega
            have happ : ∀ v : Value, #[v].toList ++ [Value.int IntKind.i64 8] ++ #[].toList = [v, Value.int IntKind.i64 8] := fun _ => rfl
            simp only [↓yaa, ↓yab, ↓yac, ↓yad, ↓yae, ↓yaf, ↓yag, ↓yah, ↓yai, ↓yaj, ↓yak, ↓yal, ↓yam, ↓yan, ↓yao, ↓yap, ↓yaq, ↓yar, ↓yas, ↓yat, ↓yau, ↓yav, ↓yaw, ↓yax, yay, yaz, yba, ybb, ybc, ybd, ybe, ybf, ybg, ybh, ybi, ybj, ybk, ybl, ybm, ybn, ybo, ybp, ybq, ybr, ybs, ybt, ybu, ybv, ares, tup, ybw, ybx, yby, argsE, dval, aop, ev, evs, evo, evp, fillL, addrOf, intOf?, ybz, yca, ycb, ycc, ycd, yce, ycf, zah, zag, reduceIte, Nat.reduceEqDiff, ycg, ych, yci, ycj, yck, ycl, ycm, ycn, yco, ycp, ycq, ycr, zap, zao, reduceCtorEq, zbb, zbc, zba, zaz, Nat.reduceAdd, Nat.reduceMul, zaq, zar, eqPtr, zae, zaf, zab, zaa, zac, zad , hload, hstore, zal, zam, Nat.reduceAdd, Nat.reduceLeDiff, zbb, zas, zat, one, zau, zaw, zav, splice, zaj, zak, zab, zaa, ycs, yct, ycu, ycv, ycw, ycx, ycy, ycz, zan, zai, zax, zay, and_self, true_and, and_true, lenV, yda, Nat.le_refl, if_true , g0, happ, hget8, wrap_small _ hval, g1, Int.toNat_natCast, Nat.mul_one, gh_get, hg3, u8s_set, partL_set hi, gh_set, g2]
            refine ⟨j, by omega, by omega, rfl, ?_⟩
            rw [show n - j = n - (j + 1) + 1 by omega, show r'.at_ + 8 * (n - (j + 1)) + 8 = r'.at_ + 8 * (n - (j + 1) + 1) by omega]
  · simp only [F42, ↓yaa, ↓yab, ↓yac, ↓yad, ↓yae, ↓yaf, ↓yag, ↓yah, ↓yai, ↓yaj, ↓yak, ↓yal, ↓yam, ↓yan, ↓yao, ↓yap, ↓yaq, ↓yar, ↓yas, ↓yat, ↓yau, ↓yav, ↓yaw, ↓yax, yay, yaz, yba, ybb, ybc, ybd, ybe, ybf, ybg, ybh, ybi, ybj, ybk, ybl, ybm, ybn, ybo, ybp, ybq, ybr, ybs, ybt, ybu, ybv, ares, tup, ybw, ybx, yby, argsE, dval, aop, ev, evs, evo, evp, fillL, addrOf, intOf?, ybz, yca, ycb, ycc, ycd, yce, ycf, zah, zag, reduceIte, Nat.reduceEqDiff, ycg, ych, yci, ycj, yck, ycl, ycm, ycn, yco, ycp, ycq, ycr, zap, zao, reduceCtorEq, zbb, zbc, zba, zaz, Nat.reduceAdd, Nat.reduceMul, zaq, zar, eqPtr, zae, zaf, zab, zaa, zac, zad , hload, hstore, zal, zam, Nat.reduceAdd, Nat.reduceLeDiff, zbb, zas, zat, one, zau, zaw, zav, splice, zaj, zak, zab, zaa, ycs, yct, ycu, ycv, ycw, ycx, ycy, ycz, zan, zai, zax, zay, and_self, true_and, and_true, lenV, yda, Nat.le_refl, if_true , limit, width most hm.2, hsp, hwr, hc, h1, ne_eq, not_false_eq_true]
    rw [if_pos (by simpa using h1)] at hk
    exact hk _ hst (setR_frm _ _ _)

end Go.Proofs.Ytejcabdejoameaa.AI

/- The reader's end. -/
set_option linter.unusedSimpArgs false
namespace Go.Proofs.Ytejcabdejoameaa.AI
open Go

def RS.close (r : RS) : Int := if r.err ≠ 0 then r.err else if 8 ≤ r.left then 10 else if valOf r.s r.at_ r.left.toNat ≠ 0 then 10 else 0

theorem vc_ptr' (a : Option Addr) : (Value.pointer a).cells.toList = [.pointer a] := rfl
theorem ydz {H : Heap} {x y : Option Blk} : (H ++ [x]).set H.length y = H ++ [y] := by rw [List.set_append_right _ _ (Nat.le_refl _)]; simp
theorem ydt (cs : Array Value) : (Value.agg cs).cells = cs := rfl

theorem ones_spec {H : Heap} {b p : Nat} {r : RS} (hb : hget H b = some ⟨true, [.pointer (some ⟨p, 0, none⟩)]⟩) (h : RSt H p r) (ho : r.Ok) (he : r.err = 0) (hl : ¬ 8 ≤ r.left) {K : Value → Heap → Prop}
    (hk : ∀ H', Frm [] H H' → K (.bool (decide (valOf r.s r.at_ r.left.toNat ≠ 0))) H') : Op1 (AC tbl 47 [.pointer (some ⟨b, 0, none⟩)] H) K := by
  apply AC_wp (F := F47) rfl (by simp [F47]) (.inl rfl)
  have hc := cells_get h
  have hbl := hget_lt hb
  have hpl := h.lt
  have h1 := ho.at_le
  have h2 := ho.size
  have hleft : r.left = ((8 * r.s.size - r.at_ : Nat) : Int) := by unfold RS.left; rw [if_pos he]; omega
  have hst : RSt (H ++ [some ⟨true, r.cells⟩]) H.length r := by unfold RSt; exact ydu
  have hstp : RSt (H ++ [some ⟨true, r.cells⟩]) p r := by unfold RSt; rw [hget_append_lt hpl]; exact h
  have hsp := left_spec hstp ho
  rw [hleft] at hl hk hsp
  simp only [Int.toNat_natCast] at hk
  have hg := get_spec (w := 8 * r.s.size - r.at_) hst (by omega) (by omega) (by omega)
  have hcell : r.cells = [.string r.s, .int .i64 (r.at_ : Int), .int .i64 r.err] := rfl
  rw [hcell] at hsp hg
  have e3 : ∀ a b c : Value, List.take 3 (List.drop 0 [a, b, c]) = [a, b, c] := fun _ _ _ => rfl
  have e4 : ∀ a b c : Value, (#[a, b, c] : Array Value).size = 3 := fun _ _ _ => rfl
  have hbit : (decide (¬ (((valOf r.s r.at_ (8 * r.s.size - r.at_) : Nat) : Int) = 0))) = decide (valOf r.s r.at_ (8 * r.s.size - r.at_) ≠ 0) := by simp only [decide_eq_decide]; omega
  simp only [F47, ↓yaa, ↓yab, ↓yac, ↓yad, ↓yae, ↓yaf, ↓yag, ↓yah, ↓yai, ↓yaj, ↓yak, ↓yal, ↓yam, ↓yan, ↓yao, ↓yap, ↓yaq, ↓yar, ↓yas, ↓yat, ↓yau, ↓yav, ↓yaw, ↓yax, yay, yaz, yba, ybb, ybc, ybd, ybe, ybf, ybg, ybh, ybi, ybj, ybk, ybl, ybm, ybn, ybo, ybp, ybq, ybr, ybs, ybt, ybu, ybv, ares, tup, ybw, ybx, yby, argsE, dval, aop, ev, evs, evo, evp, fillL, addrOf, intOf?, ybz, yca, ycb, ycc, ycd, yce, ycf, zah, zag, reduceIte, Nat.reduceEqDiff, ycg, ych, yci, ycj, yck, ycl, ycm, ycn, yco, ycp, ycq, ycr, zap, zao, reduceCtorEq, zbb, zbc, zba, zaz, Nat.reduceAdd, Nat.reduceMul, zaq, zar, eqPtr, zae, zaf, zab, zaa, zac, zad , hload, hstore, zal, zam, Nat.reduceAdd, Nat.reduceLeDiff, zbb, zas, zat, one, zau, zaw, zav, splice, zaj, zak, zab, zaa, ycs, yct, ycu, ycv, ycw, ycx, ycy, ycz, zan, zai, zax, zay, and_self, true_and, and_true, lenV, yda, Nat.le_refl, if_true , hb, hc, e3, ydt, e4, ydu, ydz, yem, hbl, hsp, hg, ne_eq, hbit]
  exact hk _ (((Frm.refl [] H).push _).set (i := H.length) _ (.inr (Nat.le_refl _)))

theorem close_spec {H : Heap} {p : Nat} {r : RS} (h : RSt H p r) (ho : r.Ok) {K : Value → Heap → Prop} (hk : ∀ H', Frm [] H H' → K (.int .i64 r.close) H') : Op1 (AC tbl 23 [.pointer (some ⟨p, 0, none⟩)] H) K := by
  apply AC_wp (F := F23) rfl (by simp [F23]) (.inl rfl)
  have hpl := h.lt
  have hstp : RSt (H ++ [some ⟨true, [.pointer (some ⟨p, 0, none⟩)]⟩]) p r := by unfold RSt; rw [hget_append_lt hpl]; exact h
  have hc := cells_get hstp
  have hsp := left_spec hstp ho
  by_cases h1 : r.err = 0
  · by_cases h2 : 8 ≤ r.left
    · simp only [F23, ↓yaa, ↓yab, ↓yac, ↓yad, ↓yae, ↓yaf, ↓yag, ↓yah, ↓yai, ↓yaj, ↓yak, ↓yal, ↓yam, ↓yan, ↓yao, ↓yap, ↓yaq, ↓yar, ↓yas, ↓yat, ↓yau, ↓yav, ↓yaw, ↓yax, yay, yaz, yba, ybb, ybc, ybd, ybe, ybf, ybg, ybh, ybi, ybj, ybk, ybl, ybm, ybn, ybo, ybp, ybq, ybr, ybs, ybt, ybu, ybv, ares, tup, ybw, ybx, yby, argsE, dval, aop, ev, evs, evo, evp, fillL, addrOf, intOf?, ybz, yca, ycb, ycc, ycd, yce, ycf, zah, zag, reduceIte, Nat.reduceEqDiff, ycg, ych, yci, ycj, yck, ycl, ycm, ycn, yco, ycp, ycq, ycr, zap, zao, reduceCtorEq, zbb, zbc, zba, zaz, Nat.reduceAdd, Nat.reduceMul, zaq, zar, eqPtr, zae, zaf, zab, zaa, zac, zad , hload, hstore, zal, zam, Nat.reduceAdd, Nat.reduceLeDiff, zbb, zas, zat, one, zau, zaw, zav, splice, zaj, zak, zab, zaa, ycs, yct, ycu, ycv, ycw, ycx, ycy, ycz, zan, zai, zax, zay, and_self, true_and, and_true, lenV, yda, Nat.le_refl, if_true , vc_ptr', ydu, hc, h1, ne_eq, not_true_eq_false, hsp, h2]
      have : r.close = 10 := by simp [RS.close, h1, h2]
      rw [← this]
      exact hk _ ((Frm.refl _ _).push _)
    · have happ : ∀ v : Value, (#[] : Array Value).toList ++ ([] : List Value) ++ #[v].toList = [v] := fun _ => rfl
      simp only [F23, ↓yaa, ↓yab, ↓yac, ↓yad, ↓yae, ↓yaf, ↓yag, ↓yah, ↓yai, ↓yaj, ↓yak, ↓yal, ↓yam, ↓yan, ↓yao, ↓yap, ↓yaq, ↓yar, ↓yas, ↓yat, ↓yau, ↓yav, ↓yaw, ↓yax, yay, yaz, yba, ybb, ybc, ybd, ybe, ybf, ybg, ybh, ybi, ybj, ybk, ybl, ybm, ybn, ybo, ybp, ybq, ybr, ybs, ybt, ybu, ybv, ares, tup, ybw, ybx, yby, argsE, dval, aop, ev, evs, evo, evp, fillL, addrOf, intOf?, ybz, yca, ycb, ycc, ycd, yce, ycf, zah, zag, reduceIte, Nat.reduceEqDiff, ycg, ych, yci, ycj, yck, ycl, ycm, ycn, yco, ycp, ycq, ycr, zap, zao, reduceCtorEq, zbb, zbc, zba, zaz, Nat.reduceAdd, Nat.reduceMul, zaq, zar, eqPtr, zae, zaf, zab, zaa, zac, zad , hload, hstore, zal, zam, Nat.reduceAdd, Nat.reduceLeDiff, zbb, zas, zat, one, zau, zaw, zav, splice, zaj, zak, zab, zaa, ycs, yct, ycu, ycv, ycw, ycx, ycy, ycz, zan, zai, zax, zay, and_self, true_and, and_true, lenV, yda, Nat.le_refl, if_true , vc_ptr', ydu, hc, h1, ne_eq, not_true_eq_false, hsp, h2, happ]
      refine ones_spec ydu hstp ho h1 h2 fun H1 hf => ?_
      by_cases h3 : valOf r.s r.at_ r.left.toNat = 0
      · have : r.close = 0 := by simp only [RS.close, h1, h2, h3]; simp
        simp only [↓yaa, ↓yab, ↓yac, ↓yad, ↓yae, ↓yaf, ↓yag, ↓yah, ↓yai, ↓yaj, ↓yak, ↓yal, ↓yam, ↓yan, ↓yao, ↓yap, ↓yaq, ↓yar, ↓yas, ↓yat, ↓yau, ↓yav, ↓yaw, ↓yax, yay, yaz, yba, ybb, ybc, ybd, ybe, ybf, ybg, ybh, ybi, ybj, ybk, ybl, ybm, ybn, ybo, ybp, ybq, ybr, ybs, ybt, ybu, ybv, ares, tup, ybw, ybx, yby, argsE, dval, aop, ev, evs, evo, evp, fillL, addrOf, intOf?, ybz, yca, ycb, ycc, ycd, yce, ycf, zah, zag, reduceIte, Nat.reduceEqDiff, ycg, ych, yci, ycj, yck, ycl, ycm, ycn, yco, ycp, ycq, ycr, zap, zao, reduceCtorEq, zbb, zbc, zba, zaz, Nat.reduceAdd, Nat.reduceMul, zaq, zar, eqPtr, zae, zaf, zab, zaa, zac, zad , h3, ne_eq, not_true_eq_false]
        rw [← this]
        exact hk _ (((Frm.refl _ _).push _).trans hf (by simp))
      · have : r.close = 10 := by simp [RS.close, h1, h2, h3]
        simp only [↓yaa, ↓yab, ↓yac, ↓yad, ↓yae, ↓yaf, ↓yag, ↓yah, ↓yai, ↓yaj, ↓yak, ↓yal, ↓yam, ↓yan, ↓yao, ↓yap, ↓yaq, ↓yar, ↓yas, ↓yat, ↓yau, ↓yav, ↓yaw, ↓yax, yay, yaz, yba, ybb, ybc, ybd, ybe, ybf, ybg, ybh, ybi, ybj, ybk, ybl, ybm, ybn, ybo, ybp, ybq, ybr, ybs, ybt, ybu, ybv, ares, tup, ybw, ybx, yby, argsE, dval, aop, ev, evs, evo, evp, fillL, addrOf, intOf?, ybz, yca, ycb, ycc, ycd, yce, ycf, zah, zag, reduceIte, Nat.reduceEqDiff, ycg, ych, yci, ycj, yck, ycl, ycm, ycn, yco, ycp, ycq, ycr, zap, zao, reduceCtorEq, zbb, zbc, zba, zaz, Nat.reduceAdd, Nat.reduceMul, zaq, zar, eqPtr, zae, zaf, zab, zaa, zac, zad , h3, ne_eq, not_false_eq_true]
        rw [← this]
        exact hk _ (((Frm.refl _ _).push _).trans hf (by simp))
  · simp only [F23, ↓yaa, ↓yab, ↓yac, ↓yad, ↓yae, ↓yaf, ↓yag, ↓yah, ↓yai, ↓yaj, ↓yak, ↓yal, ↓yam, ↓yan, ↓yao, ↓yap, ↓yaq, ↓yar, ↓yas, ↓yat, ↓yau, ↓yav, ↓yaw, ↓yax, yay, yaz, yba, ybb, ybc, ybd, ybe, ybf, ybg, ybh, ybi, ybj, ybk, ybl, ybm, ybn, ybo, ybp, ybq, ybr, ybs, ybt, ybu, ybv, ares, tup, ybw, ybx, yby, argsE, dval, aop, ev, evs, evo, evp, fillL, addrOf, intOf?, ybz, yca, ycb, ycc, ycd, yce, ycf, zah, zag, reduceIte, Nat.reduceEqDiff, ycg, ych, yci, ycj, yck, ycl, ycm, ycn, yco, ycp, ycq, ycr, zap, zao, reduceCtorEq, zbb, zbc, zba, zaz, Nat.reduceAdd, Nat.reduceMul, zaq, zar, eqPtr, zae, zaf, zab, zaa, zac, zad , hload, hstore, zal, zam, Nat.reduceAdd, Nat.reduceLeDiff, zbb, zas, zat, one, zau, zaw, zav, splice, zaj, zak, zab, zaa, ycs, yct, ycu, ycv, ycw, ycx, ycy, ycz, zan, zai, zax, zay, and_self, true_and, and_true, lenV, yda, Nat.le_refl, if_true , vc_ptr', ydu, hc, h1, ne_eq, not_false_eq_true]
    have : r.close = r.err := by simp [RS.close, h1]
    rw [← this]
    exact hk _ ((Frm.refl _ _).push _)

end Go.Proofs.Ytejcabdejoameaa.AI

/- Guards and choices whose value is not known yet; functions reckoned in a memory of their own; lists of numbers in memory. -/
set_option linter.unusedSimpArgs false
namespace Go.Proofs.Ytejcabdejoameaa.AI
open Go

section
variable {tbl : Nat → Option AFn} {e : Env} {H : Heap} {R : Env → Heap → Prop} {Q : AExit → Env → Heap → Prop} {K : Value → Heap → Prop}

def GuardO (tbl : Nat → Option AFn) (o : Option Value) (b : Bool) (d : Option Nat) (op : AOp) (r : List AOper) (e : Env) (H : Heap) (R : Env → Heap → Prop) : Prop := match o with
  | some (.bool c) => if c = b then AO tbl (⟨d, none, op⟩ :: r) e H R else AO tbl r (putE e d undef) H R
  | some _ => AO tbl r (putE e d undef) H R
  | none => False
theorem ydb {d : Option Nat} {t : Nat} {b : Bool} {op : AOp} {r : List AOper} : AO tbl (⟨d, some (t, b), op⟩ :: r) e H R = GuardO tbl (lk e t) b d op r e H R := by
  unfold GuardO
  split
  · rename_i c hc
    exact AO_guard hc
  · rename_i v hv hne
    unfold AO
    have : want ⟨d, some (t, b), op⟩ e = some false := by
      simp only [want, hne]
    simp only [aops, step, this, zag]
  · rename_i hn
    unfold AO
    simp [aops, step, want, hn]
theorem ydc {d : Option Nat} {op : AOp} {r : List AOper} : GuardO tbl (some (.bool true)) true d op r e H R = Op1 (dval (AC tbl) op e H) (COps tbl d r e R) := by simp only [GuardO, if_true]; exact AO_op
theorem ydd {d : Option Nat} {op : AOp} {r : List AOper} : GuardO tbl (some (.bool false)) false d op r e H R = Op1 (dval (AC tbl) op e H) (COps tbl d r e R) := by simp only [GuardO, if_true]; exact AO_op
theorem yde {d : Option Nat} {op : AOp} {r : List AOper} : GuardO tbl (some (.bool true)) false d op r e H R = AO tbl r (putE e d undef) H R := by simp [GuardO]
theorem ydf {d : Option Nat} {op : AOp} {r : List AOper} : GuardO tbl (some (.bool false)) true d op r e H R = AO tbl r (putE e d undef) H R := by simp [GuardO]
theorem ydg {d : Option Nat} {b : Bool} {op : AOp} {r : List AOper} : GuardO tbl (some undef) b d op r e H R = AO tbl r (putE e d undef) H R := by simp [GuardO, undef]
theorem yej {p : Prop} {hp : Decidable p} {b : Bool} {d : Option Nat} {op : AOp} {r : List AOper} (h1 : p → GuardO tbl (some (.bool true)) b d op r e H R) (h2 : ¬ p → GuardO tbl (some (.bool false)) b d op r e H R) :
    GuardO tbl (some (.bool (@decide p hp))) b d op r e H R := by
  by_cases h : p
  · rw [decide_eq_true h]; exact h1 h
  · rw [decide_eq_false h]; exact h2 h
theorem GO_of {x : Bool} {b : Bool} {d : Option Nat} {op : AOp} {r : List AOper} (h1 : x = true → GuardO tbl (some (.bool true)) b d op r e H R) (h2 : x = false → GuardO tbl (some (.bool false)) b d op r e H R) :
    GuardO tbl (some (.bool x)) b d op r e H R := by
  cases x
  · exact h2 rfl
  · exact h1 rfl

def GuardD (tbl : Nat → Option AFn) (o : Option Value) (b : Bool) (d : Option Nat) (op : AOp) (eff : Bool) (back : Nat) (r : List DOper) (hist : List Heap) (e : Env) (H : Heap) (R : Env → Heap → Prop) : Prop := match o with
  | some (.bool c) => if c = b then Op1 (dval (AC tbl) op e H) (CDops tbl d op eff back r hist e H R) else AOD tbl r (if eff then H :: hist else hist) (putE e d undef) H R
  | some _ => AOD tbl r (if eff then H :: hist else hist) (putE e d undef) H R
  | none => False
theorem ydh {d : Option Nat} {t : Nat} {b : Bool} {op : AOp} {eff : Bool} {back : Nat} {r : List DOper} {hist : List Heap} : AOD tbl (⟨⟨d, some (t, b), op⟩, eff, back⟩ :: r) hist e H R = GuardD tbl (lk e t) b d op eff back r hist e H R := by
  unfold GuardD
  split
  · rename_i c hc
    exact AOD_guard hc
  · rename_i v hv hne
    unfold AOD
    have : want ⟨d, some (t, b), op⟩ e = some false := by
      simp only [want, hne]
    simp only [aopsD, step, this, zag, okBack]
    simp
  · rename_i hn
    unfold AOD
    simp [aopsD, step, want, hn]
theorem ydi {d : Option Nat} {op : AOp} {eff : Bool} {back : Nat} {r : List DOper} {hist : List Heap} : GuardD tbl (some (.bool true)) true d op eff back r hist e H R = Op1 (dval (AC tbl) op e H) (CDops tbl d op eff back r hist e H R) := by simp only [GuardD, if_true]
theorem ydj {d : Option Nat} {op : AOp} {eff : Bool} {back : Nat} {r : List DOper} {hist : List Heap} : GuardD tbl (some (.bool false)) false d op eff back r hist e H R = Op1 (dval (AC tbl) op e H) (CDops tbl d op eff back r hist e H R) := by simp only [GuardD, if_true]
theorem ydk {d : Option Nat} {op : AOp} {back : Nat} {r : List DOper} {hist : List Heap} : GuardD tbl (some (.bool true)) false d op false back r hist e H R = AOD tbl r hist (putE e d undef) H R := by simp [GuardD]
theorem ydl {d : Option Nat} {op : AOp} {back : Nat} {r : List DOper} {hist : List Heap} : GuardD tbl (some (.bool false)) true d op false back r hist e H R = AOD tbl r hist (putE e d undef) H R := by simp [GuardD]
theorem ydm {d : Option Nat} {op : AOp} {back : Nat} {r : List DOper} {hist : List Heap} : GuardD tbl (some (.bool true)) false d op true back r hist e H R = AOD tbl r (H :: hist) (putE e d undef) H R := by simp [GuardD]
theorem ydn {d : Option Nat} {op : AOp} {back : Nat} {r : List DOper} {hist : List Heap} : GuardD tbl (some (.bool false)) true d op true back r hist e H R = AOD tbl r (H :: hist) (putE e d undef) H R := by simp [GuardD]
theorem ydo {d : Option Nat} {b : Bool} {op : AOp} {back : Nat} {r : List DOper} {hist : List Heap} : GuardD tbl (some undef) b d op false back r hist e H R = AOD tbl r hist (putE e d undef) H R := by simp [GuardD, undef]
theorem ydp {d : Option Nat} {b : Bool} {op : AOp} {back : Nat} {r : List DOper} {hist : List Heap} : GuardD tbl (some undef) b d op true back r hist e H R = AOD tbl r (H :: hist) (putE e d undef) H R := by simp [GuardD, undef]
theorem yel {p : Prop} {hp : Decidable p} {b : Bool} {d : Option Nat} {op : AOp} {eff : Bool} {back : Nat} {r : List DOper} {hist : List Heap} (h1 : p → GuardD tbl (some (.bool true)) b d op eff back r hist e H R) (h2 : ¬ p → GuardD tbl (some (.bool false)) b d op eff back r hist e H R) :
    GuardD tbl (some (.bool (@decide p hp))) b d op eff back r hist e H R := by
  by_cases h : p
  · rw [decide_eq_true h]; exact h1 h
  · rw [decide_eq_false h]; exact h2 h
theorem GD_of {x : Bool} {b : Bool} {d : Option Nat} {op : AOp} {eff : Bool} {back : Nat} {r : List DOper} {hist : List Heap} (h1 : x = true → GuardD tbl (some (.bool true)) b d op eff back r hist e H R) (h2 : x = false → GuardD tbl (some (.bool false)) b d op eff back r hist e H R) :
    GuardD tbl (some (.bool x)) b d op eff back r hist e H R := by
  cases x
  · exact h2 rfl
  · exact h1 rfl

/-! ### A memory of one's own -/
theorem fin0 {v : Value} (h : idsB 9 0 v = true) : fin true 0 v H = (v, []) := by
  unfold fin
  rw [if_pos]
  · simp
  · simp [h]
theorem ydq {k : IntKind} {n : Int} : fin true 0 (.int k n) H = (.int k n, []) := fin0 rfl
theorem ydr {b : Bool} : fin true 0 (.bool b) H = (.bool b, []) := fin0 rfl
theorem yds {s : ByteArray} : fin true 0 (.string s) H = (.string s, []) := fin0 rfl
end

theorem tlLoop (bs : ByteArray) : ∀ (k i : Nat) (r : List UInt8), bs.size - i = k → ByteArray.toList.loop bs i r = r.reverse ++ bs.data.toList.drop i := by
  intro k
  induction k with
  | zero =>
    intro i r h
    unfold ByteArray.toList.loop
    rw [if_neg (by omega)]
    have : bs.data.toList.length ≤ i := by rw [Array.length_toList]; show bs.size ≤ i; omega
    rw [List.drop_eq_nil_of_le this]; simp
  | succ k ih =>
    intro i r h
    unfold ByteArray.toList.loop
    rw [if_pos (by omega), ih (i + 1) _ (by omega)]
    have hi : i < bs.data.toList.length := by rw [Array.length_toList]; show i < bs.size; omega
    rw [List.drop_eq_getElem_cons hi]
    have : bs.get! i = bs.data.toList[i] := by
      show bs.data[i]! = _
      rw [getElem!_pos bs.data i (by simpa using hi)]
      simp
    rw [this]; simp
theorem toList_data (s : ByteArray) : s.toList = s.data.toList := by
  unfold ByteArray.toList
  rw [tlLoop s _ 0 [] rfl]; simp
theorem toList_eq (a b : ByteArray) : (a.toList == b.toList) = decide (a = b) := by
  rw [toList_data, toList_data]
  cases a with
  | mk d =>
    cases b with
    | mk e =>
      by_cases h : d = e
      · subst h; simp
      · have : ¬ d.toList = e.toList := fun x => h (Array.toList_inj.1 x)
        simp [h, this]
theorem binV_strEq (a b : ByteArray) : binV .eql (.string a) (.string b) = some (.bool (decide (a = b))) := by
  rw [← toList_eq]; rfl
theorem binV_strNe (a b : ByteArray) : binV .neq (.string a) (.string b) = some (.bool (decide (¬ a = b))) := by
  rw [decide_not, ← toList_eq]; rfl
theorem size_zero {s : ByteArray} (h : s.size = 0) : s = ⟨#[]⟩ := by
  cases s with
  | mk d => rw [Array.eq_empty_of_size_eq_zero h]
theorem eq_empty {s : ByteArray} : s = ⟨#[]⟩ ↔ s.size = 0 := ⟨fun h => by rw [h]; rfl, size_zero⟩

section
variable {tbl : Nat → Option AFn} {e : Env} {H : Heap} {R : Env → Heap → Prop} {Q : AExit → Env → Heap → Prop}
theorem yeg {p : Prop} {hp : Decidable (¬ p)} {a b : ACode} (h1 : p → AW tbl b e H Q) (h2 : ¬ p → AW tbl a e H Q) : CondA tbl (some (.bool (@decide (¬ p) hp))) a b e H Q := by
  by_cases h : p
  · rw [decide_eq_false (not_not_intro h)]; exact h1 h
  · rw [decide_eq_true h]; exact h2 h
theorem yei {p : Prop} {hp : Decidable (¬ p)} {b : Bool} {d : Option Nat} {op : AOp} {r : List AOper} (h1 : p → GuardO tbl (some (.bool false)) b d op r e H R) (h2 : ¬ p → GuardO tbl (some (.bool true)) b d op r e H R) :
    GuardO tbl (some (.bool (@decide (¬ p) hp))) b d op r e H R := by
  by_cases h : p
  · rw [decide_eq_false (not_not_intro h)]; exact h1 h
  · rw [decide_eq_true h]; exact h2 h
theorem yek {p : Prop} {hp : Decidable (¬ p)} {b : Bool} {d : Option Nat} {op : AOp} {eff : Bool} {back : Nat} {r : List DOper} {hist : List Heap} (h1 : p → GuardD tbl (some (.bool false)) b d op eff back r hist e H R) (h2 : ¬ p → GuardD tbl (some (.bool true)) b d op eff back r hist e H R) :
    GuardD tbl (some (.bool (@decide (¬ p) hp))) b d op eff back r hist e H R := by
  by_cases h : p
  · rw [decide_eq_false (not_not_intro h)]; exact h1 h
  · rw [decide_eq_true h]; exact h2 h
end

theorem tup2 {v a b : Value} (h : a = b) : Value.tuple #[v, a] = Value.tuple #[v, b] := by rw [h]
theorem Op1_fin0 {v : Value} {H : Heap} {K : Value → Heap → Prop} (h : idsB 9 0 v = true) (hk : K v []) : Op1 (some (fin true 0 v H)) K := by rw [fin0 h, ycf]; exact hk
theorem vb_t {q : Prop} {hq : Decidable q} (h : q) : Value.bool true = Value.bool (@decide q hq) := by rw [decide_eq_true h]
theorem vb_f {q : Prop} {hq : Decidable q} (h : ¬ q) : Value.bool false = Value.bool (@decide q hq) := by rw [decide_eq_false h]
theorem vb_iff {p q : Prop} {hp : Decidable p} {hq : Decidable q} (h : p ↔ q) : Value.bool (@decide p hp) = Value.bool (@decide q hq) := by congr 1; exact decide_eq_decide.2 h
theorem yec {a b : Option Blk} {r : Heap} : hget (a :: b :: r) 1 = b := rfl
theorem yed {a b c : Option Blk} {r : Heap} : hget (a :: b :: c :: r) 2 = c := rfl
theorem yee {a b c d : Option Blk} {r : Heap} : hget (a :: b :: c :: d :: r) 3 = d := rfl
theorem yef {a b c d e : Option Blk} {r : Heap} : hget (a :: b :: c :: d :: e :: r) 4 = e := rfl
theorem yea {b : Option Blk} {r : Heap} : hget (b :: r) 0 = b := rfl
theorem yeb {b : Option Blk} {r : Heap} {n : Nat} : hget (b :: r) (n + 1) = hget r n := rfl
theorem ydv {H : Heap} {a b : Option Blk} : hget (H ++ [a] ++ [b]) (H.length + 1) = b := by rw [hget_app]; simp
theorem ydx {H : Heap} {a b : Option Blk} : hget (H ++ [a] ++ [b]) H.length = a := by rw [hget_append_lt (by simp)]; simp [hget]
theorem ydy {H : Heap} {a b y : Option Blk} : (H ++ [a] ++ [b]).set H.length y = H ++ [y] ++ [b] := by simp
theorem ydw {H : Heap} {a b y : Option Blk} : (H ++ [a] ++ [b]).set (H.length + 1) y = H ++ [a] ++ [y] := by simp

end Go.Proofs.Ytejcabdejoameaa.AI

/- Memories one behind the other. -/
namespace Go.Proofs.Ytejcabdejoameaa.AI
open Go

theorem Frm.then {H H1 H2 : Heap} (h : Frm [] H H1) (k : Frm [] H1 H2) : Frm [] H H2 := h.trans k (by simp)
theorem Frm.gets {G H : Heap} (f : Frm [] G H) {i : Nat} {b : Blk} (h : hget G i = some b) : hget H i = some b := by rw [f.2 i (hget_lt h) (by simp)]; exact h

end Go.Proofs.Ytejcabdejoameaa.AI

