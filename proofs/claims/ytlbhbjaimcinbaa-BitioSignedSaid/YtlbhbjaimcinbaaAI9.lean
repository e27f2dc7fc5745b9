/- Operations, sixth part: slices, built-in functions. -/
import Derived.Test.YtlbhbjaimcinbaaAI8
namespace Go.Proofs.Ytlbhbjaimcinbaa.AI
open Go

section
variable {P : Program} {τ σ : Nat → Nat} {base : Nat} {B : Map} {H : Heap} {w : World} {e : Env} {a : Act} {o : Oper} {v : Value} {H' : Heap}

theorem evo_sound (ht : TR σ B e a) {x : Option Operand} {y : Option Arg} {v : Option Value} (hc : cOpt τ σ x = some y) (h : evo e y = some v) :
    (v = none ∧ x.map a.eval = none) ∨ ∃ u u', v = some u ∧ x.map a.eval = some u' ∧ VR σ B u u' := by
  cases x with
  | none =>
    simp only [cOpt, Option.some.injEq] at hc; subst hc
    simp only [evo, Option.some.injEq] at h; subst h
    exact .inl ⟨rfl, rfl⟩
  | some x =>
    simp only [cOpt, Option.map_eq_some_iff] at hc
    obtain ⟨y', hy, rfl⟩ := hc
    simp only [evo, Option.map_eq_some_iff] at h
    obtain ⟨u, hu, rfl⟩ := h
    exact .inr ⟨u, _, rfl, rfl, ev_sound ht hy hu⟩

theorem bounds_run {isS : Bool} {n c l h : Nat} {lo hi lo' hi' : Option Value} (hc : n ≤ c) (hb : boundsOf n n lo hi = some (l, h))
    (h1 : (lo = none ∧ lo' = none) ∨ ∃ u u', lo = some u ∧ lo' = some u' ∧ VR σ B u u') (h2 : (hi = none ∧ hi' = none) ∨ ∃ u u', hi = some u ∧ hi' = some u' ∧ VR σ B u u') :
    (Instr.sliceBounds isS n c lo' hi' none).run P w = .ok (l, h, c) w ∧ l ≤ h ∧ h ≤ n := by
  unfold boundsOf at hb
  simp only [Option.bind_eq_some_iff] at hb
  obtain ⟨h0, hh, l0, hl, hb⟩ := hb
  simp only [Option.some.injEq, Prod.mk.injEq] at hb
  obtain ⟨rfl, rfl⟩ := hb
  have H2 : (hi' = none ∧ h0 = n) ∨ ∃ k i, hi' = some (.int k i) ∧ 0 ≤ i ∧ i ≤ (n : Int) ∧ h0 = i.toNat := by
    rcases h2 with ⟨rfl, rfl⟩ | ⟨u, u', rfl, rfl, r⟩
    · simp only [Option.some.injEq] at hh
      exact .inl ⟨rfl, hh.symm⟩
    · simp only [Option.bind_eq_some_iff] at hh
      obtain ⟨i, hi, hh⟩ := hh
      obtain ⟨k, rfl⟩ := intOf_eq hi
      have := r.of_int; subst this
      split at hh
      · rename_i hle
        injection hh with hh
        exact .inr ⟨k, i, rfl, hle.1, hle.2, hh.symm⟩
      · simp at hh
  have H1 : (lo' = none ∧ l0 = 0) ∨ ∃ k i, lo' = some (.int k i) ∧ 0 ≤ i ∧ i ≤ (h0 : Int) ∧ l0 = i.toNat := by
    rcases h1 with ⟨rfl, rfl⟩ | ⟨u, u', rfl, rfl, r⟩
    · simp only [Option.some.injEq] at hl
      exact .inl ⟨rfl, hl.symm⟩
    · simp only [Option.bind_eq_some_iff] at hl
      obtain ⟨i, hi, hl⟩ := hl
      obtain ⟨k, rfl⟩ := intOf_eq hi
      have := r.of_int; subst this
      split at hl
      · rename_i hle
        injection hl with hl
        exact .inr ⟨k, i, rfl, hle.1, hle.2, hl.symm⟩
      · simp at hl
  have hhn : h0 ≤ n := by rcases H2 with ⟨_, rfl⟩ | ⟨_, _, _, _, _, rfl⟩ <;> omega
  have hlh : l0 ≤ h0 := by rcases H1 with ⟨_, rfl⟩ | ⟨_, _, _, _, _, rfl⟩ <;> omega
  refine ⟨?_, hlh, hhn⟩
  clear h1 h2 hh hl
  rcases H2 with ⟨rfl, rfl⟩ | ⟨k2, i2, rfl, q1, q2, rfl⟩ <;> rcases H1 with ⟨rfl, rfl⟩ | ⟨k1, i1, rfl, q3, q4, rfl⟩
  · simp only [Instr.sliceBounds, Sem.run_bind, Sem.run_pure, Result.andThen_ok]
  · simp only [Instr.sliceBounds, Instr.sliceBound, asIntOf, Sem.run_bind, Sem.run_pure, Result.andThen_ok, Sem.run_ite, q3, q4, and_self, if_true]
  · have q5 : i2 ≤ (c : Int) := by omega
    simp only [Instr.sliceBounds, Instr.sliceBound, asIntOf, Sem.run_bind, Sem.run_pure, Result.andThen_ok, Sem.run_ite, q1, q5, and_self, if_true]
  · have q5 : i2 ≤ (c : Int) := by omega
    simp only [Instr.sliceBounds, Instr.sliceBound, asIntOf, Sem.run_bind, Sem.run_pure, Result.andThen_ok, Sem.run_ite, q1, q5, q3, q4, and_self, if_true]

theorem slS_ok {t : TypeId} {x : Operand} {lo hi mx : Option Operand} {x' : Arg} {lo' hi' : Option Arg} (hr : HR σ base B H w) (ht : TR σ B e a) (hop : o.op = .slice t x lo hi mx) (hmx : mx = none)
    (hu : P.underlying t = some .string) (hx : cArg τ σ x = some x') (hl : cOpt τ σ lo = some lo') (hh : cOpt τ σ hi = some hi') (h : aop (.slS x' lo' hi') e H = some (v, H')) :
    OpOK P σ base B H w a o v H' := by
  simp only [aop] at h
  split at h
  · rename_i s l1 h1 hvx hvl hvh
    simp only [Option.map_eq_some_iff] at h
    obtain ⟨⟨l, hb⟩, hbb, he⟩ := h
    injection he with e1 e2; subst e1; subst e2
    have ex := (ev_sound ht hx hvx).of_string
    obtain ⟨hrun, _, _⟩ := bounds_run (P := P) (w := w) (isS := false) (Nat.le_refl _) hbb (evo_sound ht hl hvl) (evo_sound ht hh hvh)
    refine OpOK.pure hr ?_ (.atom _ rfl)
    subst hmx
    simp only [execOp, hop, ex, Instr.sliceAt, Instr.slice, Sem.run_bind, run_underlying hu, Result.andThen_ok, Option.map_none, Option.isSome_none, Bool.false_eq_true, if_false, hrun, Sem.run_pure]
  · simp at h

theorem slL_ok {t el : TypeId} {sz : Nat} {x : Operand} {lo hi mx : Option Operand} {x' : Arg} {lo' hi' mx' : Option Arg} (hr : HR σ base B H w) (ht : TR σ B e a) (hop : o.op = .slice t x lo hi mx)
    (hu : P.underlying t = some (.slice el)) (hs : szT P el = some sz) (hx : cArg τ σ x = some x') (hl : cOpt τ σ lo = some lo') (hh : cOpt τ σ hi = some hi') (hm : cOpt τ σ mx = some mx')
    (h : aop (.slL sz x' lo' hi' mx') e H = some (v, H')) : OpOK P σ base B H w a o v H' := by
  simp only [aop] at h
  split at h
  · rename_i ad n z l1 h1 hvx hvl hvh
    have hmx : mx = none := by
      cases mx with
      | none => rfl
      | some m => simp [cOpt] at hm
    simp only [Option.bind_eq_some_iff] at h
    obtain ⟨⟨l, hb⟩, hbb, h⟩ := h
    simp only at h
    split at h
    · rename_i hlt
      obtain ⟨hlt, rfl⟩ := hlt
      injection h with h; injection h with e1 e2; subst e1; subst e2
      obtain ⟨p, c, hp, hsp, hcase⟩ := (ev_sound ht hx hvx).of_slice
      rcases hcase with ⟨ex, hnc, hsz⟩ | ⟨h0, _⟩
      · obtain ⟨hrun, hlh, hhn⟩ := bounds_run (P := P) (w := w) (isS := true) hnc hbb (evo_sound ht hl hvl) (evo_sound ht hh hvh)
        refine OpOK.pure (v' := .slice (some ⟨p.blk, p.off + (ad.off + l * z), none⟩) (hb - l) (c - l)) hr ?_ (.slice _ _ _ _ _ p hp (by omega) (fun s hps => ?_))
        · subst hmx
          have : ¬ (c = l) := by omega
          simp only [execOp, hop, ex, Instr.sliceAt, Instr.slice, Sem.run_bind, run_underlying hu, Result.andThen_ok, Option.map_none, hrun, szT_run hs, Sem.run_pure, this, if_false, Option.map_some, Addr_add, Nat.add_assoc]
        · have := hsz s hps
          have : (c - l) * z + l * z = c * z := by rw [← Nat.add_mul]; congr 1; omega
          omega
      · omega
    · simp at h
  · simp at h

theorem slA_ok {t el : TypeId} {sz n : Nat} {x : Operand} {lo hi mx : Option Operand} {x' : Arg} {lo' hi' : Option Arg} (hr : HR σ base B H w) (ht : TR σ B e a) (hop : o.op = .slice t x lo hi mx) (hmx : mx = none)
    (hu : P.underlying t = some (.array n el)) (hs : szT P el = some sz) (hx : cArg τ σ x = some x') (hl : cOpt τ σ lo = some lo') (hh : cOpt τ σ hi = some hi')
    (h : aop (.slA n sz x' lo' hi') e H = some (v, H')) : OpOK P σ base B H w a o v H' := by
  simp only [aop] at h
  split at h
  · rename_i vx l1 h1 hvx hvl hvh
    simp only [Option.bind_eq_some_iff] at h
    obtain ⟨ad, had, ⟨l, hb⟩, hbb, h⟩ := h
    simp only at h
    split at h
    · rename_i hlt
      obtain ⟨hlt, hfit⟩ := hlt
      injection h with h; injection h with e1 e2; subst e1; subst e2
      obtain ⟨rfl, _⟩ := addrOf_eq had
      obtain ⟨p, hp, ex⟩ := (ev_sound ht hx hvx).of_ptr
      obtain ⟨hrun, hlh, hhn⟩ := bounds_run (P := P) (w := w) (isS := false) (Nat.le_refl _) hbb (evo_sound ht hl hvl) (evo_sound ht hh hvh)
      refine OpOK.pure (v' := .slice (some ⟨p.blk, p.off + (ad.off + l * sz), none⟩) (hb - l) (n - l)) hr ?_ (.slice _ _ _ _ _ p hp (by omega) (fun s hps => ?_))
      · subst hmx
        have : ¬ (n = l) := by omega
        simp only [execOp, hop, ex, Instr.sliceAt, Instr.sureAddr, Sem.run_bind, run_underlying hu, Result.andThen_ok, Option.map_none, hrun, szT_run hs, Sem.run_pure, this, if_false, Addr_add, Nat.add_assoc]
      · have hfit2 : ad.off + n * sz ≤ s := by
          cases hb0 : hget H ad.block with
          | none => rw [hb0] at hfit; simp at hfit; omega
          | some b =>
            rw [hb0] at hfit
            simp at hfit
            cases hrw : b.rw with
            | false =>
              obtain ⟨g, o, e1, _⟩ := hr.ro _ b hb0 hrw
              rw [hp] at e1; injection e1 with e1; subst e1; simp at hps
            | true =>
              obtain ⟨g, f, z, cs, ty, fr, e1, _, _, _, _, hle, _⟩ := hr.rw _ b hb0 hrw
              rw [hp] at e1; injection e1 with e1; subst e1; simp at hps; omega
        have : (n - l) * sz + l * sz = n * sz := by rw [← Nat.add_mul]; congr 1; omega
        omega
    · simp at h
  · simp at h

theorem mkF_ok {f : Nat} {fst cap : Array Operand} {fst' cap' : List Arg} (hr : HR σ base B H w) (ht : TR σ B e a) (hop : o.op = .makeFunc (.func f) fst cap) (hf : σ (τ f) = f)
    (h1 : cArgs τ σ fst.toList = some fst') (h2 : cArgs τ σ cap.toList = some cap') (h : aop (.mkF (τ f) fst' cap') e H = some (v, H')) : OpOK P σ base B H w a o v H' := by
  simp only [aop, Option.bind_eq_some_iff, Option.map_eq_some_iff] at h
  obtain ⟨u, hu, c, hc, he⟩ := h
  injection he with e1 e2; subst e1; subst e2
  have r1 := evs_sound ht h1 hu
  have r2 := evs_sound ht h2 hc
  have : VR σ B (.func (.func (τ f)) u.toArray c.toArray) (.func (.func (σ (τ f))) (fst.map a.eval) (cap.map a.eval)) :=
    .func _ _ _ _ _ (by simpa using r1.1) (by simpa using r1.2) (by simpa using r2.1) (by simpa using r2.2)
  rw [hf] at this
  refine OpOK.pure hr ?_ this
  simp only [execOp, hop, Instr.makeFunc, Sem.run_bind, Sem.run_pure, Result.andThen_ok]

/-- A call of a built-in function. -/
theorem exec_builtin {b : Builtin} {args : Array Operand} {tys : Array TypeId} (hop : o.op = .call { callee := .builtin b, args, argTypes := tys }) :
    ∃ cs, execOp a.eval o = builtin b tys o.type cs (args.map a.eval) := by
  refine ⟨args.map fun | .const _ => true | _ => false, ?_⟩
  simp only [execOp, hop, resolve, invoke]
  rfl

theorem args1 {args : Array Operand} {x : Arg} (h : cArgs τ σ args.toList = some [x]) : ∃ y, args = #[y] ∧ cArg τ σ y = some x := by
  obtain ⟨l⟩ := args
  match l, h with
  | [], h => simp [cArgs] at h
  | [y], h => 
    simp only [cArgs, Option.bind_eq_some_iff] at h
    obtain ⟨a, ha, r, hr, h⟩ := h
    simp only [Option.some.injEq] at hr h; subst hr
    injection h with h; subst h
    exact ⟨y, rfl, ha⟩
  | y :: z :: r, h =>
    simp only [cArgs, Option.bind_eq_some_iff] at h
    obtain ⟨a, ha, r, hr, h⟩ := h
    injection h with h; injection h with h h'; subst h'
    obtain ⟨_, _, _, _, hr⟩ := hr
    simp at hr

theorem args2 {args : Array Operand} {x x2 : Arg} (h : cArgs τ σ args.toList = some [x, x2]) : ∃ y y2, args = #[y, y2] ∧ cArg τ σ y = some x ∧ cArg τ σ y2 = some x2 := by
  obtain ⟨l⟩ := args
  match l, h with
  | [], h => simp [cArgs] at h
  | y :: l, h =>
    simp only [cArgs, Option.bind_eq_some_iff] at h
    obtain ⟨a, ha, r, hr, h⟩ := h
    injection h with h; injection h with h h'; subst h; subst h'
    obtain ⟨y2, e2, h2⟩ := args1 (args := ⟨l⟩) hr
    injection e2 with e2; subst e2
    exact ⟨y, y2, rfl, ha, h2⟩

theorem lenS_ok {args : Array Operand} {t : TypeId} {x' : Arg} (hr : HR σ base B H w) (ht : TR σ B e a) (hop : o.op = .call { callee := .builtin .len, args, argTypes := #[t] })
    (hu : P.underlying t = some .string) (hc : cArgs τ σ args.toList = some [x']) (h : aop (.lenS x') e H = some (v, H')) : OpOK P σ base B H w a o v H' := by
  obtain ⟨x, rfl, hx⟩ := args1 hc
  simp only [aop] at h
  split at h
  · rename_i s hvx
    injection h with h; injection h with e1 e2; subst e1; subst e2
    have ex := (ev_sound ht hx hvx).of_string
    obtain ⟨cs, hx⟩ := exec_builtin (a := a) hop
    refine OpOK.pure hr ?_ (.atom _ rfl)
    rw [hx]
    simp [builtin, Builtin.len_, ex, run_underlying hu, goInt]
  · simp at h

theorem lenL_ok {args : Array Operand} {t el : TypeId} {x' : Arg} (hr : HR σ base B H w) (ht : TR σ B e a) (hop : o.op = .call { callee := .builtin .len, args, argTypes := #[t] })
    (hu : P.underlying t = some (.slice el)) (hc : cArgs τ σ args.toList = some [x']) (h : aop (.lenL x') e H = some (v, H')) : OpOK P σ base B H w a o v H' := by
  obtain ⟨x, rfl, hx⟩ := args1 hc
  simp only [aop] at h
  split at h
  · rename_i ad n z hvx
    injection h with h; injection h with e1 e2; subst e1; subst e2
    have rv := ev_sound ht hx hvx
    have : ∃ a' c, a.eval x = .slice a' n c := by
      cases ad with
      | none =>
        generalize a.eval x = y at rv
        cases rv with
        | atom _ hh => exact ⟨none, z, rfl⟩
      | some ad =>
        obtain ⟨p, c, _, _, hcase⟩ := rv.of_slice
        rcases hcase with ⟨ex, _⟩ | ⟨h0, _, a', ex⟩
        · exact ⟨_, _, ex⟩
        · subst h0; exact ⟨_, _, ex⟩
    obtain ⟨a', c, ex⟩ := this
    obtain ⟨cs, hx⟩ := exec_builtin (a := a) hop
    refine OpOK.pure hr ?_ (.atom _ rfl)
    rw [hx]
    simp [builtin, Builtin.len_, ex, run_underlying hu, goInt]
  · simp at h

theorem mm_ok {args : Array Operand} {tys : Array TypeId} {xs : List Arg} {mx : Bool} (hr : HR σ base B H w) (ht : TR σ B e a) (hop : o.op = .call { callee := .builtin (if mx then .max else .min), args, argTypes := tys })
    (hc : cArgs τ σ args.toList = some xs) (h : aop (if mx then .maxI xs else .minI xs) e H = some (v, H')) : OpOK P σ base B H w a o v H' := by
  obtain ⟨cs, hx⟩ := exec_builtin (a := a) hop
  have key : ∀ vs k x k' y, evs e xs = some vs → vs = [.int k x, .int k' y] → (args.map a.eval).toList = [.int k x, .int k' y] := by
    intro vs k x k' y hvs hl
    have r := evs_sound ht hc hvs
    subst hl
    obtain ⟨v1, m, e1, r1, r2⟩ := r.of_cons
    obtain ⟨v2, m2, e2, r3, r4⟩ := r2.of_cons
    have : m2 = [] := List.eq_nil_of_length_eq_zero r4.1.symm
    subst this; subst e2
    rw [Array.toList_map, e1, r1.of_int, r3.of_int]
  cases mx with
  | true =>
    simp only [if_true, aop, Option.bind_eq_some_iff] at h
    obtain ⟨vs, hvs, h⟩ := h
    split at h
    · rename_i k x k' y
      split at h
      · rename_i hk
        injection h with h; injection h with e1 e2; subst e1; subst e2
        refine OpOK.pure hr ?_ (.atom _ rfl)
        rw [hx]
        have := key _ _ _ _ _ hvs rfl
        rw [Array.toList_map] at this
        simp [builtin, Builtin.max_, Builtin.max2, this]
      · simp at h
    · simp at h
  | false =>
    simp only [Bool.false_eq_true, if_false, aop, Option.bind_eq_some_iff] at h
    obtain ⟨vs, hvs, h⟩ := h
    split at h
    · rename_i k x k' y
      split at h
      · rename_i hk
        injection h with h; injection h with e1 e2; subst e1; subst e2
        refine OpOK.pure hr ?_ (.atom _ rfl)
        rw [hx]
        have := key _ _ _ _ _ hvs rfl
        rw [Array.toList_map] at this
        simp [builtin, Builtin.min_, Builtin.min2, this]
      · simp at h
    · simp at h

end
end Go.Proofs.Ytlbhbjaimcinbaa.AI
