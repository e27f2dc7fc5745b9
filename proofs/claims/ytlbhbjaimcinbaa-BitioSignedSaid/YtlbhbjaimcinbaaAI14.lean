/- From operations to regions: the frame's temporaries; calls. -/
import Derived.Test.YtlbhbjaimcinbaaAI13
import Derived.LoopN
namespace Go.Proofs.Ytlbhbjaimcinbaa.AI
open Go

/-- A function that is called does what the interpreter says. -/
def CallOK (P : Program) (σ : Nat → Nat) (base : Nat) (call : Nat → List Value → Heap → Option (Value × Heap)) : Prop :=
  ∀ (f : Nat) (vs : List Value) (H : Heap) (v : Value) (H' : Heap), call f vs H = some (v, H') →
    (∃ fn, P.funcs[σ f]? = some fn ∧ (fn.name == "runtime.NumGoroutine") = false ∧ fn.body.isNone = false) ∧
    ∀ (B : Map) (w : World) (vs' : List Value), HR σ base B H w → VRs σ B vs vs' →
      Calls P (σ f) ⟨vs'⟩ w fun e w' => ∃ v' B', e = .returned v' ∧ VR σ B' v v' ∧ HR σ base B' H' w' ∧ Stp B H w B' H' w'

section
variable {P : Program} {τ σ : Nat → Nat} {base : Nat} {B : Map} {H : Heap} {w : World} {e : Env} {a : Act} {v : Value} {H' : Heap}

theorem lk_putE {e : Env} {d : Option Nat} {v : Value} {t : Nat} {u : Value} (h : lk (putE e d v) t = some u) : (d = some t ∧ u = v) ∨ (d ≠ some t ∧ lk e t = some u) := by
  cases d with
  | none => exact .inr ⟨by simp, h⟩
  | some d =>
    simp only [putE, lk] at h
    split at h
    · rename_i hd; subst hd; injection h with h; exact .inl ⟨rfl, h.symm⟩
    · rename_i hd; exact .inr ⟨by simpa using hd, h⟩

theorem TR.put (ht : TR σ B e a) {d : Option Nat} {v v' : Value} (hd : ∀ t, d = some t → t < a.tmps.size) (r : VR σ B v v') : TR σ B (putE e d v) (a.put d v') := by
  intro t u hu
  rcases lk_putE hu with ⟨rfl, rfl⟩ | ⟨hne, hu⟩
  · exact ⟨v', by simp [Act.put, hd t rfl], r⟩
  · obtain ⟨u', hu', r'⟩ := ht t u hu
    refine ⟨u', ?_, r'⟩
    cases d with
    | none => exact hu'
    | some d =>
      have : d ≠ t := fun he => hne (by rw [he])
      simp [Act.put, Array.getElem?_setIfInBounds_ne this, hu']

theorem put_size (a : Act) (d : Option Nat) (v : Value) : (a.put d v).tmps.size = a.tmps.size := by cases d <;> simp [Act.put]
theorem put_defers (a : Act) (d : Option Nat) (v : Value) : (a.put d v).defers = a.defers := by cases d <;> rfl

theorem VR.not_bool {v v' : Value} (r : VR σ B v v') (h : ∀ b, v ≠ .bool b) : ∀ b, v' ≠ .bool b := by
  intro b hb
  subst hb
  cases r with
  | atom _ ha => exact h b rfl

theorem want_sound {ops : Array Oper} {o : Oper} {ao : AOper} {b : Bool} (ht : TR σ B e a) (hc : cOper P τ σ ops o = some ao) (h : want ao e = some b) : Region.wanted o (yielded ops a.tmps) = b := by
  simp only [cOper, Option.bind_eq_some_iff] at hc
  obtain ⟨op, _, hc⟩ := hc
  cases hg : o.guard with
  | none =>
    rw [hg] at hc
    simp only [Option.some.injEq] at hc; subst hc
    simp only [want, Option.some.injEq] at h; subst h
    simp [Region.wanted, hg]
  | some g =>
    obtain ⟨j, c⟩ := g
    rw [hg] at hc
    simp only at hc
    split at hc
    · rename_i t hj
      injection hc with hc; subst hc
      simp only [want] at h
      have hy : yielded ops a.tmps j = match a.tmps[t]? with | some (.bool b) => some b | _ => none := by
        unfold yielded; rw [hj]; rfl
      simp only [Region.wanted, hg, hy]
      split at h
      · rename_i q hq
        injection h with h; subst h
        obtain ⟨q', hq', r⟩ := ht t _ hq
        rw [hq', r.of_bool]
        simp
      · rename_i u hnb hq
        injection h with h; subst h
        obtain ⟨q', hq', r⟩ := ht t _ hq
        rw [hq']
        have := r.not_bool (fun b hb => hnb b (by rw [hb]))
        cases q' <;> first | rfl | exact absurd rfl (this _)
      · simp at h
    · simp at hc

theorem cOper_op {ops : Array Oper} {o : Oper} {ao : AOper} (hc : cOper P τ σ ops o = some ao) : cOpA P τ σ o.op = some ao.op ∧ ao.dst = o.dst := by
  simp only [cOper, Option.bind_eq_some_iff] at hc
  obtain ⟨op, hop, hc⟩ := hc
  split at hc
  · injection hc with hc; subst hc; exact ⟨hop, rfl⟩
  · split at hc
    · injection hc with hc; subst hc; exact ⟨hop, rfl⟩
    · simp at hc

/-- What comes of one operation, whatever follows. -/
def Done (σ : Nat → Nat) (base : Nat) (B : Map) (H : Heap) (w : World) (v : Value) (H' : Heap) (v' : Value) (w' : World) (B' : Map) : Prop :=
  VR σ B' v v' ∧ HR σ base B' H' w' ∧ Stp B H w B' H' w'

theorem enter_wp {call : Nat → List Value → Heap → Option (Value × Heap)} (hcall : CallOK P σ base call) {f : Nat} {vs vs' : List Value} (hr : HR σ base B H w) (hv : VRs σ B vs vs') (h : call f vs H = some (v, H'))
    {o : Oper} (hx : execOp a.eval o = callFunc (σ f) ⟨vs'⟩) {K : Act → World → Prop} {Q : Exit → Act → World → Prop} (hK : ∀ v' w' B', Done σ base B H w v H' v' w' B' → K (a.put o.dst v') w') : o.wp P a w K Q := by
  obtain ⟨⟨fn, hf, hn, hb⟩, hc⟩ := hcall f vs H v H' h
  have hrun : (callFunc (σ f) ⟨vs'⟩).run P w = .ok (.enter (σ f) ⟨vs'⟩) w := by
    simp only [callFunc, Sem.run_bind, run_program, Result.andThen_ok, hf, hn, hb, Bool.false_eq_true, if_false, Sem.run_pure]
  unfold Oper.wp
  rw [hx, hrun, Oper.upon_enter]
  refine (hc B w vs' hr hv).mono fun e w' he => ?_
  obtain ⟨v', B', rfl, r1, r2, r3⟩ := he
  exact hK v' w' B' ⟨r1, r2, r3⟩

theorem op_wp {call : Nat → List Value → Heap → Option (Value × Heap)} (hcall : CallOK P σ base call) (hr : HR σ base B H w) (ht : TR σ B e a) {o : Oper} {ao : AOp} (hc : cOpA P τ σ o.op = some ao)
    (h : dval call ao e H = some (v, H')) {K : Act → World → Prop} {Q : Exit → Act → World → Prop} (hK : ∀ v' w' B', Done σ base B H w v H' v' w' B' → K (a.put o.dst v') w') : o.wp P a w K Q := by
  have plain : ∀ {ao}, cOp P τ σ o.op = some ao → aop ao e H = some (v, H') → o.wp P a w K Q := by
    intro ao hc h
    obtain ⟨v', w', B', hy, r1, r2, r3⟩ := cOp_sound hr ht hc h
    unfold Oper.wp
    rcases hy with hy | ⟨hy, rfl⟩
    · rw [hy, Oper.upon_value]; exact hK _ _ _ ⟨r1, r2, r3⟩
    · rw [hy, Oper.upon_skip]; exact hK _ _ _ ⟨r1, r2, r3⟩
  have value : ∀ {x : Operand} {x' : Arg} {as : Array Operand} {as' : List Arg} {tys : Array TypeId}, o.op = .call { callee := .value x, args := as, argTypes := tys } → cArg τ σ x = some x' → cArgs τ σ as.toList = some as' →
      dval call (.callv x' as') e H = some (v, H') → o.wp P a w K Q := by
    intro x x' as as' tys hop hcx hcs h
    simp only [dval] at h
    split at h
    · rename_i i fst cap hf
      simp only [Option.bind_eq_some_iff] at h
      obtain ⟨vs, hvs, h⟩ := h
      have rf := ev_sound ht hcx hf
      generalize hev : a.eval x = y at rf
      cases rf with
      | atom _ hh => simp [AI.atom] at hh
      | func i f1 c1 f' c' h1 r1 h2 r2 =>
        have rall : VRs σ B (fst.toList ++ vs ++ cap.toList) (f'.toList ++ as.toList.map a.eval ++ c'.toList) := (VRs.append ⟨h1, r1⟩ (evs_sound ht hcs hvs)).append ⟨h2, r2⟩
        refine enter_wp hcall hr rall h ?_ hK
        have harr : (f' ++ as.map a.eval ++ c') = (⟨f'.toList ++ as.toList.map a.eval ++ c'.toList⟩ : Array Value) := by apply Array.ext'; simp
        rw [← harr]
        simp only [execOp, hop, resolve, hev, Deferred.ofValue, invoke]
        rfl
    · simp at h
  generalize hop : o.op = op at hc
  unfold cOpA at hc
  split at hc
  · rename_i f args tys
    split at hc
    · rename_i hf
      simp only [Option.map_eq_some_iff] at hc
      obtain ⟨as', has, rfl⟩ := hc
      simp only [dval, Option.bind_eq_some_iff] at h
      obtain ⟨vs, hvs, h⟩ := h
      refine enter_wp hcall hr (evs_sound ht has hvs) h ?_ hK
      have harr : (#[] ++ args.map a.eval ++ #[]) = (⟨args.toList.map a.eval⟩ : Array Value) := by apply Array.ext'; simp
      rw [← harr, hf]
      simp only [execOp, hop, resolve, Deferred.ofValue, Act.eval, invoke]
      rfl
    · simp at hc
  · rename_i x args tys _
    simp only [Option.bind_eq_some_iff, Option.map_eq_some_iff] at hc
    obtain ⟨x', hx, as', has, rfl⟩ := hc
    exact value hop hx has h
  · simp only [Option.bind_eq_some_iff] at hc
    obtain ⟨r, hr0, hc⟩ := hc
    split at hc
    · simp at hc
    · rename_i hnc
      injection hc with hc; subst hc
      refine plain (by rw [hop]; exact hr0) ?_
      unfold dval at h
      split at h
      · simp [isCall] at hnc
      · simp [isCall] at hnc
      · exact h

/-- One operation, its guard asked. -/
theorem step_wp {call : Nat → List Value → Heap → Option (Value × Heap)} (hcall : CallOK P σ base call) (hr : HR σ base B H w) (ht : TR σ B e a) {ops : Array Oper} {o : Oper} {ao : AOper} (hc : cOper P τ σ ops o = some ao)
    (hd : ∀ t, o.dst = some t → t < a.tmps.size) {e' : Env} (h : step call ao e H = some (e', H')) {K : Act → World → Prop} {Q : Exit → Act → World → Prop}
    (hK : ∀ a' w' B', TR σ B' e' a' → HR σ base B' H' w' → Stp B H w B' H' w' → a'.defers = a.defers → a'.tmps.size = a.tmps.size → K a' w') :
    if Region.wanted o (yielded ops a.tmps) then o.wp P a w K Q else K (a.put o.dst undef) w := by
  obtain ⟨hop, hdst⟩ := cOper_op hc
  unfold step at h
  cases hw : want ao e with
  | none => rw [hw] at h; simp at h
  | some b =>
    rw [hw] at h
    rw [want_sound ht hc hw]
    cases b with
    | true =>
      simp only [if_true]
      simp only [does, Option.map_eq_some_iff] at h
      obtain ⟨⟨v, H1⟩, hv, he⟩ := h
      simp only [Prod.mk.injEq] at he
      obtain ⟨rfl, rfl⟩ := he
      refine op_wp hcall hr ht hop hv fun v' w' B' hdone => ?_
      obtain ⟨r1, r2, r3⟩ := hdone
      refine hK _ w' B' ?_ r2 r3 (put_defers _ _ _) (put_size _ _ _)
      rw [hdst]
      exact (ht.mono r3.ext).put hd r1
    | false =>
      simp only [Bool.false_eq_true, if_false]
      injection h with h; injection h with h1 h2; subst h1; subst h2
      refine hK _ w B ?_ hr (.refl _ _ _) (put_defers _ _ _) (put_size _ _ _)
      rw [hdst]
      exact ht.put hd (.tuple' VRs.nil)

/-- A region in the order of its text. -/
theorem aops_wp {call : Nat → List Value → Heap → Option (Value × Heap)} (hcall : CallOK P σ base call) {ops : Array Oper} {Q : Exit → Act → World → Prop} : ∀ {l : List Oper} {al : List AOper} {e e' : Env} {H H' : Heap} {B : Map} {w : World} {a : Act},
    cOpers P τ σ ops l = some al → (∀ o ∈ l, ∀ t, o.dst = some t → t < a.tmps.size) → aops call al e H = some (e', H') → HR σ base B H w → TR σ B e a →
    (∀ a' w' B', TR σ B' e' a' → HR σ base B' H' w' → Stp B H w B' H' w' → a'.defers = a.defers → a'.tmps.size = a.tmps.size → Q .normal a' w') → wpList P ops Q l a w := by
  intro l
  induction l with
  | nil =>
    intro al e e' H H' B w a hc _ h hr ht hQ
    simp only [cOpers, Option.some.injEq] at hc; subst hc
    simp only [aops, Option.some.injEq, Prod.mk.injEq] at h
    obtain ⟨rfl, rfl⟩ := h
    exact wpList_nil (hQ a w B ht hr (.refl _ _ _) rfl rfl)
  | cons o l ih =>
    intro al e e' H H' B w a hc hd h hr ht hQ
    simp only [cOpers, Option.bind_eq_some_iff] at hc
    obtain ⟨ao, hao, al', hal, hc⟩ := hc
    injection hc with hc; subst hc
    simp only [aops, Option.bind_eq_some_iff] at h
    obtain ⟨⟨e1, H1⟩, hs, h⟩ := h
    refine wpList_step fun K hK => step_wp hcall hr ht hao (hd o (by simp)) hs fun a' w' B' t1 r1 s1 d1 z1 => hK _ _ ?_
    exact ih hal (fun o' ho' t ht' => by rw [z1]; exact hd o' (by simp [ho']) t ht') h r1 t1 fun a2 w2 B2 t2 r2 s2 d2 z2 => hQ a2 w2 B2 t2 r2 (s1.trans s2) (d2.trans d1) (z2.trans z1)

end
end Go.Proofs.Ytlbhbjaimcinbaa.AI
