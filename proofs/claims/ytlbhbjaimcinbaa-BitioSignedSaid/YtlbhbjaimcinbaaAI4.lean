/- Operations: what the interpreter does stands for what the machine does. First part: those that come to no memory. -/
import Derived.Test.YtlbhbjaimcinbaaAI3
namespace Go.Proofs.Ytlbhbjaimcinbaa.AI
open Go

def TR (σ : Nat → Nat) (B : Map) (e : Env) (a : Act) : Prop := ∀ (t : Nat) (v : Value), lk e t = some v → ∃ v', a.tmps[t]? = some v' ∧ VR σ B v v'

section
variable {P : Program} {τ σ : Nat → Nat} {base : Nat} {B : Map} {H : Heap} {w : World} {e : Env} {a : Act}

theorem TR.mono {B' : Map} (h : Ext B B') (t : TR σ B e a) : TR σ B' e a := fun k v hv => by
  obtain ⟨v', hv', r⟩ := t k v hv
  exact ⟨v', hv', r.mono h⟩

theorem ev_sound (ht : TR σ B e a) {x : Operand} {y : Arg} {v : Value} (hc : cArg τ σ x = some y) (h : ev e y = some v) : VR σ B v (a.eval x) := by
  cases x with
  | tmp t =>
    simp only [cArg, Option.some.injEq] at hc; subst hc
    obtain ⟨v', hv', r⟩ := ht t v h
    simpa [Act.eval, Array.getD_eq_getD_getElem?, hv'] using r
  | const c =>
    simp only [cArg] at hc
    split at hc
    · rename_i hk
      injection hc with hc; subst hc
      simp only [ev, Option.some.injEq] at h; subst h
      exact VR.const 9 _ hk
    · simp at hc
  | func f =>
    simp only [cArg] at hc
    split at hc
    · rename_i hk
      injection hc with hc; subst hc
      simp only [ev, Option.some.injEq] at h; subst h
      have : VR σ B (.func (.func (τ f)) #[] #[]) (.func (.func (σ (τ f))) #[] #[]) := .func _ _ _ _ _ rfl (fun j x x' hx => by simp at hx) rfl (fun j x x' hx => by simp at hx)
      rwa [hk] at this
    · simp at hc
  | global g => simp [cArg] at hc

theorem evs_sound (ht : TR σ B e a) : ∀ {xs : List Operand} {ys : List Arg} {vs : List Value}, cArgs τ σ xs = some ys → evs e ys = some vs → VRs σ B vs (xs.map a.eval) := by
  intro xs
  induction xs with
  | nil =>
    intro ys vs hc h
    simp only [cArgs, Option.some.injEq] at hc; subst hc
    simp only [evs, Option.some.injEq] at h; subst h
    exact VRs.nil
  | cons x xs ih =>
    intro ys vs hc h
    simp only [cArgs, Option.bind_eq_some_iff] at hc
    obtain ⟨y, hy, ys', hys, hc⟩ := hc
    injection hc with hc; subst hc
    simp only [evs, Option.bind_eq_some_iff] at h
    obtain ⟨v, hv, vs', hvs, h⟩ := h
    injection h with h; subst h
    exact (ih hys hvs).cons (ev_sound ht hy hv)

theorem eval0_run {α : Type} {s : Sem α} {v : α} (h : eval0 s = some v) (w : World) : s.run P w = .ok v w := by
  cases s <;> simp [eval0] at h
  subst h; rfl

theorem VR.atom_eq {v v' : Value} (r : VR σ B v v') (h : AI.atom v = true) : v' = v := by
  cases r with
  | atom => rfl
  | ptr => simp [AI.atom] at h
  | slice => simp [AI.atom] at h
  | empty => simp [AI.atom] at h
  | agg => simp [AI.atom] at h
  | tuple => simp [AI.atom] at h
  | func => simp [AI.atom] at h

theorem VR.of_int {k : IntKind} {n : Int} {v' : Value} (r : VR σ B (.int k n) v') : v' = .int k n := r.atom_eq rfl
theorem VR.of_bool {b : Bool} {v' : Value} (r : VR σ B (.bool b) v') : v' = .bool b := r.atom_eq rfl
theorem VR.of_string {s : ByteArray} {v' : Value} (r : VR σ B (.string s) v') : v' = .string s := r.atom_eq rfl

/-- What an operation's run ends in. -/
def Yields (P : Program) (o : Oper) (a : Act) (w : World) (v : Value) (w' : World) : Prop :=
  (execOp a.eval o).run P w = .ok (.value v) w' ∨ ((execOp a.eval o).run P w = .ok .skip w' ∧ v = undef)

/-- An operation is sound. -/
def OpOK (P : Program) (σ : Nat → Nat) (base : Nat) (B : Map) (H : Heap) (w : World) (a : Act) (o : Oper) (v : Value) (H' : Heap) : Prop :=
  ∃ v' w' B', Yields P o a w v' w' ∧ VR σ B' v v' ∧ HR σ base B' H' w' ∧ Stp B H w B' H' w'

theorem OpOK.pure {o : Oper} {v v' : Value} (hr : HR σ base B H w) (h : (execOp a.eval o).run P w = .ok (.value v') w) (hv : VR σ B v v') : OpOK P σ base B H w a o v H :=
  ⟨v', w, B, .inl h, hv, hr, .refl _ _ _⟩

theorem eqBool_run {t : TypeId} (hu : P.underlying t = some .bool) (p q : Bool) (w : World) : (Op.equal t (.bool p) (.bool q)).run P w = .ok (p == q) w := by
  show (Op.equalIn (9999 + 1) t (.bool p) (.bool q)).run P w = _
  rw [Op.equalIn]
  simp only [Sem.run_bind, run_underlying hu, Result.andThen_ok]
  rfl

theorem stringOp_atom {op : BinOp} {x y : ByteArray} {v : Value} (h : eval0 (Op.stringOp op x y) = some v) : AI.atom v = true := by
  cases op
  case add =>
    by_cases hc : (((x.size + y.size : Nat) : Int) > IntKind.i64.max)
    · simp only [Op.stringOp, if_pos hc, unsupported, eval0, reduceCtorEq] at h
    · simp only [Op.stringOp, if_neg hc, Pure.pure, eval0, Option.some.injEq] at h
      subst h; rfl
  all_goals first
    | (simp only [Op.stringOp, Pure.pure, eval0, Option.some.injEq] at h; subst h; rfl)
    | (simp only [Op.stringOp, stuck, eval0, reduceCtorEq] at h)

theorem intOp_atom {op : BinOp} {k k' : IntKind} {x y : Int} {v : Value} (h : binV op (.int k x) (.int k' y) = some v) : AI.atom v = true := by
  have hs : ∀ {op}, eval0 (Op.shift op k x k' y) = some v → AI.atom v = true := by
    intro op h
    by_cases hc : y < 0
    · simp only [Op.shift, if_pos hc, runtimePanic, Bind.bind, Sem.bind, program, eval0, reduceCtorEq] at h
    · cases op <;> simp only [Op.shift, if_neg hc, Pure.pure, stuck, eval0, reduceCtorEq, Option.some.injEq] at h <;> subst h <;> rfl
  have hd : ∀ {op}, eval0 (Op.intDiv op k x y) = some v → AI.atom v = true := by
    intro op h
    by_cases hc : y = 0
    · simp only [Op.intDiv, if_pos hc, runtimePanic, Bind.bind, Sem.bind, program, eval0, reduceCtorEq] at h
    · cases op <;> simp only [Op.intDiv, if_neg hc, Pure.pure, stuck, eval0, reduceCtorEq, Option.some.injEq] at h <;> subst h <;> rfl
  have ha : ∀ {op}, eval0 (Op.intArith op k x y) = some v → AI.atom v = true := by
    intro op h
    cases op <;> simp only [Op.intArith, Pure.pure, stuck, eval0, reduceCtorEq, Option.some.injEq] at h <;> subst h <;> rfl
  have hb : ∀ {op}, eval0 (Op.intBits op k x y) = some v → AI.atom v = true := by
    intro op h
    cases op <;> simp only [Op.intBits, Pure.pure, stuck, eval0, reduceCtorEq, Option.some.injEq] at h <;> subst h <;> rfl
  have hm : ∀ {op}, eval0 (Op.intCmp op x y) = some v → AI.atom v = true := by
    intro op h
    cases op <;> simp only [Op.intCmp, Pure.pure, stuck, eval0, reduceCtorEq, Option.some.injEq] at h <;> subst h <;> rfl
  unfold binV at h
  cases op <;> simp only at h <;> first
    | exact hs h
    | (split at h
       · first | exact ha h | exact hd h | exact hb h | exact hm h
       · simp at h)

theorem binV_run {op : BinOp} {x y v : Value} {t : TypeId} {px py : Operand} (h : binV op x y = some v) (w : World) :
    (do eqGuard op t px py x y; binOp op t x y : Sem Value).run P w = .ok v w := by
  have hg : (eqGuard op t px py x y).run P w = .ok () w := by
    unfold binV at h
    cases x <;> cases y <;> simp only [reduceCtorEq] at h <;> cases op <;> rfl
  simp only [Sem.run_bind, hg, Result.andThen_ok]
  unfold binV at h
  cases x <;> cases y <;> simp only [reduceCtorEq] at h
  · rename_i k m k' n
    cases op <;> simp only at h <;> first
      | exact eval0_run h w
      | (split at h
         · rename_i hk; subst hk; simp only [binOp, ne_eq, not_true, if_false]; exact eval0_run h w
         · simp at h)
  · exact eval0_run (by cases op <;> exact h) w

theorem binV_atom {op : BinOp} {x y v : Value} (h : binV op x y = some v) : AI.atom x = true ∧ AI.atom y = true ∧ AI.atom v = true := by
  unfold binV at h
  cases x <;> cases y <;> simp only [reduceCtorEq] at h
  · exact ⟨rfl, rfl, intOp_atom (op := op) (by unfold binV; exact h)⟩
  · exact ⟨rfl, rfl, stringOp_atom h⟩

theorem eqb_ok {o : Oper} {op : BinOp} {neg : Bool} {t u : TypeId} {x y : Operand} {v : Value} {H' : Heap} (hr : HR σ base B H w) (ht : TR σ B e a) (hop : o.op = .binOp op t x y u) (hu : P.underlying t = some .bool)
    {x' y' : Arg} (hx : cArg τ σ x = some x') (hy : cArg τ σ y = some y') (ho : (op = .eql ∧ neg = false) ∨ (op = .neq ∧ neg = true)) (h : aop (.eqb neg x' y') e H = some (v, H')) : OpOK P σ base B H w a o v H' := by
  simp only [aop] at h
  split at h
  · rename_i p q hvx hvy
    injection h with h; injection h with e1 e2; subst e1; subst e2
    have ex := (ev_sound ht hx hvx).of_bool
    have ey := (ev_sound ht hy hvy).of_bool
    refine OpOK.pure hr ?_ (.atom _ rfl)
    rcases ho with ⟨rfl, rfl⟩ | ⟨rfl, rfl⟩
    · simp only [execOp, hop, ex, ey, Sem.run_bind, show (eqGuard .eql t x y (.bool p) (.bool q)).run P w = .ok () w from rfl, Result.andThen_ok, binOp, eqBool_run hu, Sem.run_pure]
      simp
    · simp only [execOp, hop, ex, ey, Sem.run_bind, show (eqGuard .neq t x y (.bool p) (.bool q)).run P w = .ok () w from rfl, Result.andThen_ok, binOp, eqBool_run hu, Sem.run_pure]
      simp
  · simp at h

theorem bin_ok {o : Oper} {op : BinOp} {t u : TypeId} {x y : Operand} {ao : AOp} {v : Value} {H' : Heap} (hr : HR σ base B H w) (ht : TR σ B e a) (hop : o.op = .binOp op t x y u)
    {x' y' : Arg} (hx : cArg τ σ x = some x') (hy : cArg τ σ y = some y')
    (hao : ao = .bin op x' y') (h : aop ao e H = some (v, H')) : OpOK P σ base B H w a o v H' := by
  subst hao
  simp only [aop, Option.bind_eq_some_iff, Option.map_eq_some_iff] at h
  obtain ⟨vx, hvx, vy, hvy, r, hr', he⟩ := h
  injection he with e1 e2; subst e1; subst e2
  obtain ⟨a1, a2, a3⟩ := binV_atom hr'
  have ex := (ev_sound ht hx hvx).atom_eq a1
  have ey := (ev_sound ht hy hvy).atom_eq a2
  refine OpOK.pure hr ?_ (.atom r a3)
  have := binV_run (P := P) (t := t) (px := x) (py := y) hr' w
  simp only [execOp, hop, ex, ey, Sem.run_bind] at this ⊢
  simp only [this, Result.andThen_ok, Sem.run_pure]

end
end Go.Proofs.Ytlbhbjaimcinbaa.AI
