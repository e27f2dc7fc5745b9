/- What is proved on the way to BitioReads, part 2: an interpreter of the code, its soundness, and what the functions answer. -/
import Derived.Calls
import Derived.Orders
import Derived.RowKit3
import Derived.KernelRfl
import Derived.WalkKit
import Derived.Laws.IdiomStrings
import Derived.Laws.StructEq
import Derived.LoopN
import Derived.Test.YtlbhbjaimcinbaaRe1
/- A region whose order is open, third part. -/
namespace Go.Proofs.Ytlbhbjaimcinbaa.AI
open Go

theorem lk_restrict {e : Env} : ∀ {us : List Nat} {t : Nat}, lk (us.filterMap fun t => (lk e t).map fun v => (t, v)) t = if t ∈ us then lk e t else none := by
  intro us
  induction us with
  | nil => intro t; simp [lk]
  | cons u us ih =>
    intro t
    cases hu : lk e u with
    | none =>
      simp only [List.filterMap_cons, hu, Option.map_none, ih, List.mem_cons]
      by_cases htu : t = u
      · subst htu; simp [hu]
      · simp [htu]
    | some v =>
      simp only [List.filterMap_cons, hu, Option.map_some, lk, ih, List.mem_cons]
      by_cases htu : u = t
      · subst htu; simp [hu]
      · have : ¬ t = u := fun h => htu h.symm
        simp [htu, this]

theorem cOpers_get {P : Program} {τ σ : Nat → Nat} {ops : Array Oper} : ∀ {l : List Oper} {os : List AOper}, cOpers P τ σ ops l = some os → ∀ (i : Nat) (ao : AOper), os[i]? = some ao → ∃ o, l[i]? = some o ∧ cOper P τ σ ops o = some ao := by
  intro l
  induction l with
  | nil => intro os h i ao hi; simp only [cOpers, Option.some.injEq] at h; subst h; simp at hi
  | cons o l ih =>
    intro os h i ao hi
    simp only [cOpers, Option.bind_eq_some_iff] at h
    obtain ⟨ao', hao, os', hos, h⟩ := h
    injection h with h; subst h
    cases i with
    | zero => simp at hi; subst hi; exact ⟨o, rfl, hao⟩
    | succ i => exact ih hos i ao (by simpa using hi)

theorem permD_le {os : List AOper} : ∀ (l : List (Nat × Nat)), (permD os l).length ≤ l.length
  | [] => by simp [permD]
  | (i, b) :: r => by
    simp only [permD]
    split <;> simp only [List.length_cons] <;> have := permD_le (os := os) r <;> omega

theorem permD_get {os : List AOper} : ∀ {l : List (Nat × Nat)}, (permD os l).length = l.length → ∀ (p i b : Nat), l[p]? = some (i, b) → ∃ ao, os[i]? = some ao ∧ (permD os l)[p]? = some ⟨ao, isEff ao.op, b⟩ := by
  intro l
  induction l with
  | nil => intro _ p i b h; simp at h
  | cons x l ih =>
    obtain ⟨i0, b0⟩ := x
    intro hl p i b h
    cases ho : os[i0]? with
    | none =>
      simp only [permD, ho, List.length_cons] at hl
      have := permD_le (os := os) l
      omega
    | some ao0 =>
      simp only [permD, ho, List.length_cons, Nat.add_right_cancel_iff] at hl
      cases p with
      | zero =>
        simp only [List.getElem?_cons_zero, Option.some.injEq, Prod.mk.injEq] at h
        obtain ⟨rfl, rfl⟩ := h
        exact ⟨ao0, ho, by simp [permD, ho]⟩
      | succ p =>
        obtain ⟨ao, h1, h2⟩ := ih hl p i b (by simpa using h)
        exact ⟨ao, h1, by simpa [permD, ho] using h2⟩

/-- What is known while a region is carried out in the order that was drawn: L tells which places of the interpreter's order are done. -/
structure Mid (σ : Nat → Nat) (base : Nat) (n : Nat) (d : Nat → DOper) (f : Nat → Env × Heap × List Heap) (B0 : Map) (H0 : Heap) (w0 : World) (a0 : Act) (L : Nat → Prop) (B : Map) (s : Nat) (a : Act) (w : World) : Prop where
  sn : s ≤ n
  eff : ∀ p, p < n → (d p).eff = true → (L p ↔ p < s)
  hr : HR σ base B (f s).2.1 w
  stp : Stp B0 H0 w0 B (f s).2.1 w
  put : ∀ q, q < n → L q → ∀ t, (d q).o.dst = some t → ∀ v, lk (f (q + 1)).1 t = some v → ∃ v', a.tmps[t]? = some v' ∧ VR σ B v v'
  old : ∀ t, (∀ q, q < n → L q → (d q).o.dst ≠ some t) → a.tmps[t]? = a0.tmps[t]?
  defers : a.defers = a0.defers
  size : a.tmps.size = a0.tmps.size

section
variable {P : Program} {τ σ : Nat → Nat} {base : Nat}
variable {call : Nat → List Value → Heap → Option (Value × Heap)}
variable {ops : Array Oper} {pre : List (List Nat)} {at_ : Nat → Nat} {d : Nat → DOper} {f : Nat → Env × Heap × List Heap}

/-- What a step of the interpreter's order puts. -/
def PutV (call : Nat → List Value → Heap → Option (Value × Heap)) (dd : DOper) (e : Env) (H : Heap) (e' : Env) (H' : Heap) : Prop :=
  (want dd.o e = some true ∧ ∃ v, dval call dd.o.op e H = some (v, H') ∧ e' = putE e dd.o.dst v) ∨ (want dd.o e = some false ∧ H' = H ∧ e' = putE e dd.o.dst undef)

theorem step_putV {dd : DOper} {e e' : Env} {H H' : Heap} (h : step call dd.o e H = some (e', H')) : PutV call dd e H e' H' := by
  unfold step at h
  split at h
  · rename_i hw
    simp only [does, Option.map_eq_some_iff] at h
    obtain ⟨⟨v, H1⟩, hv, he⟩ := h
    simp only [Prod.mk.injEq] at he
    exact .inl ⟨hw, v, by rw [hv, he.2], he.1.symm⟩
  · rename_i hw
    injection h with h; injection h with h1 h2
    exact .inr ⟨hw, h2.symm, h1.symm⟩
  · simp at h

theorem dval_pure {op : AOp} (h : isPure op = true ∨ isRead op = true) (e : Env) (H : Heap) : dval call op e H = aop op e H := by
  cases op <;> first | rfl | (simp [isPure, isRead] at h)

variable (F : DFacts ops pre at_ d)
variable (T : ∀ p, p < ops.size → PutV call (d p) (f p).1 (f p).2.1 (f (p + 1)).1 (f (p + 1)).2.1)
variable (Hs : ∀ p, p < ops.size → (f (p + 1)).2.2 = if (d p).eff then (f p).2.1 :: (f p).2.2 else (f p).2.2)
variable (Bk : ∀ p, p < ops.size → (d p).back = 0 ∨ want (d p).o (f p).1 = some false ∨ ∃ v H2, aop (d p).o.op (f p).1 (f p).2.1 = some (v, H2) ∧ again (d p).o.op (f p).1 v ((f p).2.2.take (d p).back) = true)
include F T Hs Bk

omit Hs Bk in
theorem heap_same {p : Nat} (hp : p < ops.size) (he : (d p).eff = false) : (f (p + 1)).2.1 = (f p).2.1 := by
  rcases T p hp with ⟨_, v, hv, _⟩ | ⟨_, h, _⟩
  · rcases F.kind p hp with h | h | h
    · rw [h] at he; simp at he
    · rw [dval_pure (.inl h)] at hv; exact (pure_heap h [] hv).1
    · rw [dval_pure (.inr h)] at hv; exact read_heap h hv
  · exact h

omit Hs Bk in
theorem heap_range {s : Nat} : ∀ {p : Nat}, s ≤ p → p ≤ ops.size → (∀ q, s ≤ q → q < p → (d q).eff = false) → (f p).2.1 = (f s).2.1 := by
  intro p
  induction p with
  | zero => intro h _ _; obtain rfl : s = 0 := by omega
            rfl
  | succ p ih =>
    intro h hn hq
    by_cases e : s = p + 1
    · subst e; rfl
    · rw [heap_same F T (by omega) (hq p (by omega) (by omega))]
      exact ih (by omega) (by omega) fun q h1 h2 => hq q h1 (by omega)

omit F Hs Bk in
theorem lk_before {t : Nat} : ∀ {p : Nat}, p ≤ ops.size → (∀ q, q < p → (d q).o.dst ≠ some t) → lk (f p).1 t = lk (f 0).1 t := by
  intro p
  induction p with
  | zero => intro _ _; rfl
  | succ p ih =>
    intro hn h
    rw [← ih (by omega) fun q hq => h q (by omega)]
    have hne := h p (by omega)
    have key : ∀ v, lk (putE (f p).1 (d p).o.dst v) t = lk (f p).1 t := by
      intro v
      cases hd : (d p).o.dst with
      | none => rfl
      | some u =>
        have : ¬ u = t := fun e => hne (by rw [hd, e])
        simp [putE, lk, this]
    rcases T p (by omega) with ⟨_, v, _, he⟩ | ⟨_, _, he⟩ <;> rw [he, key]

omit Hs Bk in
theorem lk_after {t q : Nat} (hq : q < ops.size) (hd : (d q).o.dst = some t) : ∀ {p : Nat}, q < p → p ≤ ops.size → lk (f p).1 t = lk (f (q + 1)).1 t := by
  intro p
  induction p with
  | zero => intro h; omega
  | succ p ih =>
    intro h hn
    by_cases e : q = p
    · subst e; rfl
    · rw [← ih (by omega) (by omega)]
      have hne : (d p).o.dst ≠ some t := F.dst q p hq (by omega) e t hd
      have key : ∀ v, lk (putE (f p).1 (d p).o.dst v) t = lk (f p).1 t := by
        intro v
        cases hd : (d p).o.dst with
        | none => rfl
        | some u =>
          have : ¬ u = t := fun e => hne (by rw [hd, e])
          simp [putE, lk, this]
      rcases T p (by omega) with ⟨_, v, _, he⟩ | ⟨_, _, he⟩ <;> rw [he, key]

omit F T Bk in
theorem hist_at {q : Nat} (he : (d q).eff = true) : ∀ {p : Nat}, q < p → p ≤ ops.size → (f p).2.2[cnt (fun x => (d x).eff) q p]? = some (f q).2.1 := by
  intro p
  induction p with
  | zero => intro h; omega
  | succ p ih =>
    intro h hn
    rw [Hs p (by omega)]
    by_cases e : q = p
    · subst e
      have hz : ∀ p, p ≤ q → cnt (fun x => (d x).eff) q p = 0 := by
        intro p
        induction p with
        | zero => intro _; rfl
        | succ p ih => intro hp; simp only [cnt]; rw [ih (by omega), if_neg (fun h => by omega)]
      simp only [cnt]
      rw [hz q (Nat.le_refl _), if_pos he]
      simp
    · have := ih (by omega) (by omega)
      simp only [cnt]
      by_cases hp : (d p).eff = true
      · rw [if_pos hp, if_pos ⟨by omega, hp⟩]; simpa using this
      · rw [if_neg hp, if_neg (fun h => hp h.2)]; simpa using this

/-- The next operation, wherever it comes. -/
theorem mid_step (Ef : ∀ p, p < ops.size → (d p).eff = isEff (d p).o.op) (hcall : CallOK P σ base call) {B0 : Map} {H0 : Heap} {w0 : World} {a0 : Act} (h0 : TR σ B0 (f 0).1 a0) {L : Nat → Prop} {B : Map} {s : Nat} {a : Act} {w : World} (M : Mid σ base ops.size d f B0 H0 w0 a0 L B s a w)
    {p : Nat} (hp : p < ops.size) (hL : ¬ L p) (hpre : ∀ q, q < ops.size → at_ q ∈ pre.getD (at_ p) [] → L q) (hclo : ∀ q, q < ops.size → L q → ∀ r, r < ops.size → at_ r ∈ pre.getD (at_ q) [] → L r)
    {o : Oper} (ho : ops[at_ p]? = some o) (hc : cOper P τ σ ops o = some (d p).o) (hd : ∀ t, o.dst = some t → t < a.tmps.size) {K : Act → World → Prop} {Q : Exit → Act → World → Prop}
    (hK : ∀ a' w' B' s', Mid σ base ops.size d f B0 H0 w0 a0 (fun q => L q ∨ q = p) B' s' a' w' → K a' w') :
    if Region.wanted o (yielded ops a.tmps) then o.wp P a w K Q else K (a.put o.dst undef) w := by
  obtain ⟨hop, hdst⟩ := cOper_op hc
  -- what the operation sees
  have ht : TR σ B ((operU (d p).o).filterMap fun t => (lk (f p).1 t).map fun v => (t, v)) a := by
    intro t v hv
    rw [lk_restrict] at hv
    split at hv
    · rename_i hu
      by_cases hex : ∃ q, q < ops.size ∧ (d q).o.dst = some t
      · obtain ⟨q, hq, hqd⟩ := hex
        have orig : (∀ r, r < ops.size → L r → (d r).o.dst ≠ some t) → (∀ r, r < p → (d r).o.dst ≠ some t) → ∃ v', a.tmps[t]? = some v' ∧ VR σ B v v' := by
          intro h1 h2
          rw [lk_before T (by omega) h2] at hv
          obtain ⟨v', hv', r⟩ := h0 t v hv
          exact ⟨v', by rw [M.old t h1]; exact hv', r.mono M.stp.ext⟩
        by_cases hqp : p = q
        · subst hqp
          refine orig (fun r hr hLr hrd => ?_) (fun r hr hrd => ?_)
          · by_cases e : r = p
            · subst e; exact hL hLr
            · exact F.dst p r hp hr (Ne.symm e) t hqd hrd
          · exact F.dst p r hp (by omega) (by omega) t hqd hrd
        · have hu2 := F.use p q hp hq hqp t hqd hu
          by_cases hlt : q < p
          · have hLq := hpre q hq (hu2.1 hlt)
            rw [lk_after F T hq hqd hlt (by omega)] at hv
            exact M.put q hq hLq t hqd v hv
          · have hnL : ¬ L q := fun h => hL (hclo q hq h p hp (hu2.2 hlt))
            refine orig (fun r hr hLr hrd => ?_) (fun r hr hrd => ?_)
            · by_cases e : r = q
              · subst e; exact hnL hLr
              · exact F.dst q r hq hr (Ne.symm e) t hqd hrd
            · exact F.dst q r hq (by omega) (by omega) t hqd hrd
      · rw [lk_before T (by omega) (fun r hr hrd => hex ⟨r, by omega, hrd⟩)] at hv
        obtain ⟨v', hv', r⟩ := h0 t v hv
        exact ⟨v', by rw [M.old t (fun r hr _ hrd => hex ⟨r, hr, hrd⟩)]; exact hv', r.mono M.stp.ext⟩
    · simp at hv
  have hag : ∀ t ∈ operU (d p).o, lk ((operU (d p).o).filterMap fun t => (lk (f p).1 t).map fun v => (t, v)) t = lk (f p).1 t := fun t hu => by rw [lk_restrict, if_pos hu]
  have hwant := want_congr (o := (d p).o) (fun t hu => (hag t hu))
  -- the memory before and behind it
  have stay : (d p).eff = false → ∀ q, q < ops.size → (d q).eff = true → ((L q ∨ q = p) ↔ q < s) := by
    intro he q hq hqe
    rw [← M.eff q hq hqe]
    constructor
    · rintro (h | h)
      · exact h
      · subst h; rw [he] at hqe; simp at hqe
    · exact .inl
  have go : (d p).eff = true → p ≥ s ∧ (∀ q, s ≤ q → q < p → (d q).eff = false) ∧ ∀ q, q < ops.size → (d q).eff = true → ((L q ∨ q = p) ↔ q < p + 1) := by
    intro he
    have hnp : isPure (d p).o.op = false := by
      have := Ef p hp
      rw [this] at he
      simp only [isEff, Bool.not_eq_true', Bool.or_eq_false_iff] at he
      exact he.1
    have h1 : p ≥ s := by
      by_cases h : p < s
      · exact absurd ((M.eff p hp he).2 h) hL
      · omega
    have h2 : ∀ q, q < p → (d q).eff = true → L q := by
      intro q hq hqe
      rcases F.earlier p q hp (by omega) hq hqe hnp with h | ⟨h, _⟩
      · exact hpre q (by omega) h
      · rw [he] at h; simp at h
    refine ⟨h1, fun q hsq hqp => ?_, fun q hq hqe => ?_⟩
    · cases hqe : (d q).eff with
      | false => rfl
      | true => have := (M.eff q (by omega) hqe).1 (h2 q hqp hqe); omega
    · constructor
      · rintro (h | h)
        · have := (M.eff q hq hqe).1 h; omega
        · omega
      · intro h
        by_cases e : q = p
        · exact .inr e
        · exact .inl (h2 q (by omega) hqe)
  -- behind it
  have fin : ∀ {v : Value} {v' : Value} {w' : World} {B' : Map} {s' : Nat}, (f (p + 1)).1 = putE (f p).1 (d p).o.dst v → s' ≤ ops.size → (∀ q, q < ops.size → (d q).eff = true → ((L q ∨ q = p) ↔ q < s')) →
      VR σ B' v v' → HR σ base B' (f s').2.1 w' → Stp B (f s).2.1 w B' (f s').2.1 w' → K (a.put o.dst v') w' := by
    intro v v' w' B' s' he hs' heff hv hr hst
    refine hK _ w' B' s' ⟨hs', heff, hr, M.stp.trans hst, fun q hq hLq t hqd u hu => ?_, fun t hno => ?_, by rw [put_defers]; exact M.defers, by rw [put_size]; exact M.size⟩
    · rcases hLq with hLq | rfl
      · obtain ⟨u', hu', r⟩ := M.put q hq hLq t hqd u hu
        refine ⟨u', ?_, r.mono hst.ext⟩
        have hqp : p ≠ q := fun h => hL (h ▸ hLq)
        rw [← hdst]
        cases hpd : (d p).o.dst with
        | none => exact hu'
        | some x =>
          have : x ≠ t := fun h => F.dst p q hp hq hqp x hpd (by rw [hqd, h])
          simp [Act.put, Array.getElem?_setIfInBounds_ne this, hu']
      · rw [he, hqd] at hu
        simp [putE, lk] at hu
        subst hu
        refine ⟨v', ?_, hv⟩
        rw [← hdst, hqd]
        simp [Act.put, hd t (by rw [← hdst, hqd])]
    · rw [← M.old t (fun q hq hLq => hno q hq (.inl hLq))]
      have := hno p hp (.inr rfl)
      rw [← hdst]
      cases hpd : (d p).o.dst with
      | none => rfl
      | some x =>
        have : x ≠ t := fun h => this (by rw [hpd, h])
        simp [Act.put, Array.getElem?_setIfInBounds_ne this]
  rcases T p hp with ⟨hw, v, hv, he⟩ | ⟨hw, hH, he⟩
  · -- it is carried out
    rw [← hwant] at hw
    rw [want_sound ht hc hw]
    simp only [if_true]
    have run : ∀ {H2 : Heap}, dval call (d p).o.op ((operU (d p).o).filterMap fun t => (lk (f p).1 t).map fun v => (t, v)) (f s).2.1 = some (v, H2) → ∀ s', s' ≤ ops.size → (f s').2.1 = H2 → (∀ q, q < ops.size → (d q).eff = true → ((L q ∨ q = p) ↔ q < s')) → o.wp P a w K Q := by
      intro H2 hrun s' hs' hH2 heff
      refine op_wp hcall M.hr ht hop hrun fun v' w' B' hdone => ?_
      obtain ⟨r1, r2, r3⟩ := hdone
      subst hH2
      exact fin he hs' heff r1 r2 r3
    have hco : ∀ H, dval call (d p).o.op ((operU (d p).o).filterMap fun t => (lk (f p).1 t).map fun v => (t, v)) H = dval call (d p).o.op (f p).1 H := fun H => dval_congr fun t hu => hag t (by simp [operU, hu])
    cases heff : (d p).eff with
    | true =>
      obtain ⟨h1, h2, h3⟩ := go heff
      have hh := heap_range F T (s := s) (p := p) h1 (by omega) h2
      exact run (by rw [hco, ← hh]; exact hv) (p + 1) (by omega) rfl h3
    | false =>
      have st := stay heff
      rcases F.kind p hp with h | h | h
      · rw [heff] at h; simp at h
      · rw [dval_pure (.inl h)] at hv
        refine run (by rw [hco, dval_pure (.inl h)]; exact (pure_heap h (f s).2.1 hv).2) s M.sn rfl st
      · rw [dval_pure (.inr h)] at hv
        have hnp : isPure (d p).o.op = false := by
          cases hopp : (d p).o.op <;> rw [hopp] at h <;> first | (simp [isRead] at h; done) | rfl
        have same : (f s).2.1 = (f p).2.1 → o.wp P a w K Q := by
          intro hh
          have h1 := read_heap h hv
          exact run (H2 := (f s).2.1) (by rw [hco, dval_pure (.inr h), hh]; rw [h1] at hv; exact hv) s M.sn rfl st
        by_cases hsp : p < s
        · -- no effect between p and s
          refine same (heap_range F T (s := p) (p := s) (by omega) M.sn fun q h1 h2 => ?_)
          cases hqe : (d q).eff with
          | false => rfl
          | true =>
            by_cases e : q = p
            · subst e; rw [heff] at hqe; simp at hqe
            · have hLq := (M.eff q (by have := M.sn; omega) hqe).2 h2
              exact absurd (hclo q (by have := M.sn; omega) hLq p hp (F.later p q hp (by have := M.sn; omega) (by omega) hqe hnp)) hL
        · by_cases hex : ∃ q, s ≤ q ∧ q < p ∧ (d q).eff = true
          · -- the first effect that is still to come
            obtain ⟨q, hq, hmin⟩ : ∃ q, (s ≤ q ∧ q < p ∧ (d q).eff = true) ∧ ∀ x, s ≤ x → x < q → (d x).eff = false := by
              obtain ⟨q0, hq0⟩ := hex
              have : ∀ m q, q ≤ m → (s ≤ q ∧ q < p ∧ (d q).eff = true) → ∃ q, (s ≤ q ∧ q < p ∧ (d q).eff = true) ∧ ∀ x, s ≤ x → x < q → (d x).eff = false := by
                intro m
                induction m with
                | zero => intro q hm hq; exact ⟨q, hq, fun x h1 h2 => by omega⟩
                | succ m ih =>
                  intro q hm hq
                  by_cases hx : ∃ x, s ≤ x ∧ x < q ∧ (d x).eff = true
                  · obtain ⟨x, h1, h2, h3⟩ := hx
                    exact ih x (by omega) ⟨h1, by omega, h3⟩
                  · refine ⟨q, hq, fun x h1 h2 => ?_⟩
                    cases hxe : (d x).eff with
                    | false => rfl
                    | true => exact absurd ⟨x, h1, h2, hxe⟩ hx
              exact this q0 q0 (Nat.le_refl _) hq0
            obtain ⟨h1, h2, h3⟩ := hq
            have hh := heap_range F T (s := s) (p := q) h1 (by omega) hmin
            have hnL : ¬ L q := fun hl => by have := (M.eff q (by omega) h3).1 hl; omega
            rcases F.earlier p q hp (by omega) h2 h3 hnp with hin | ⟨_, hcnt⟩
            · exact absurd (hpre q (by omega) hin) hnL
            · rcases Bk p hp with hb | hb | ⟨v2, H2, hv2, hag2⟩
              · omega
              · rw [hwant, hb] at hw; simp at hw
              · rw [hv] at hv2; injection hv2 with hv2; injection hv2 with e1 e2; subst e1
                have hmem : (f q).2.1 ∈ (f p).2.2.take (d p).back := by
                  refine List.mem_iff_getElem?.2 ⟨cnt (fun x => (d x).eff) q p, ?_⟩
                  rw [List.getElem?_take, if_pos hcnt]
                  exact hist_at Hs h3 h2 (by omega)
                obtain ⟨H3, h4⟩ := again_mem hag2 _ hmem
                have h5 := read_heap h h4
                refine run (H2 := (f s).2.1) (by rw [hco, dval_pure (.inr h), ← hh]; rw [h5] at h4; exact h4) s M.sn rfl st
          · refine same (heap_range F T (s := s) (p := p) (by omega) (by omega) fun q h1 h2 => ?_).symm
            cases hqe : (d q).eff with
            | false => rfl
            | true => exact absurd ⟨q, h1, h2, hqe⟩ hex
  · -- it is passed over
    rw [← hwant] at hw
    rw [want_sound ht hc hw]
    simp only [Bool.false_eq_true, if_false]
    cases heff : (d p).eff with
    | true =>
      obtain ⟨h1, h2, h3⟩ := go heff
      have hh := heap_range F T (s := s) (p := p) h1 (by omega) h2
      have hh2 : (f (p + 1)).2.1 = (f s).2.1 := hH.trans hh
      exact fin (B' := B) (s' := p + 1) he (by omega) h3 (.tuple' VRs.nil) (by rw [hh2]; exact M.hr) (by rw [hh2]; exact .refl _ _ _)
    | false => exact fin (B' := B) (s' := s) he M.sn (stay heff) (.tuple' VRs.nil) M.hr (.refl _ _ _)
end

end Go.Proofs.Ytlbhbjaimcinbaa.AI

/- Regions, statements, functions. -/
namespace Go.Proofs.Ytlbhbjaimcinbaa.AI
open Go

section
variable {P : Program} {τ σ : Nat → Nat} {base : Nat}
variable {call : Nat → List Value → Heap → Option (Value × Heap)}

theorem ready_spec {ops : Array Oper} {listed : Array Bool} {i : Nat} : i ∈ Region.ready .any ops listed ↔ i < ops.size ∧ listed.getD i true = false ∧ ∀ k ∈ direct (ops.getD i default), listed.getD k false = true := by
  simp only [Region.ready, List.mem_filter, List.mem_range, Bool.and_eq_true, Bool.not_eq_true', direct, List.mem_map, Array.mem_toList_iff]
  constructor
  · rintro ⟨hi, h1, h2⟩
    refine ⟨hi, h1, ?_⟩
    rw [Array.getElem?_eq_getElem hi] at h2
    simp only [Option.map_some, Option.getD_some, Array.all_eq_true'] at h2
    rintro k ⟨x, hx, rfl⟩
    have hx1 : x ∈ (ops[i]).after := by have := hx.1; simpa [Array.getD, hi] using this
    have := h2 x hx1
    simpa [hx.2] using this
  · rintro ⟨hi, h1, h2⟩
    refine ⟨hi, h1, ?_⟩
    rw [Array.getElem?_eq_getElem hi]
    simp only [Option.map_some, Option.getD_some, Array.all_eq_true']
    intro x hx
    cases hb : Region.binds .any x with
    | false => simp
    | true =>
      have := h2 x.on ⟨x, by simp [hb, Array.getD, hi, hx], rfl⟩
      simpa using this

theorem any_wp (hm : P.follows .mixedOrders = true) (hcall : CallOK P σ base call) {ops : Array Oper} {os : List AOper} (hos : cOpers P τ σ ops ops.toList = some os) {ord : List (Nat × Nat)}
    (hk : okD ops (preOf ops.toList) (ord.map (·.1)) (permD os ord) = true) {nt : Nat} (hdst : dstOk nt ops.toList = true) {B0 : Map} {H0 : Heap} {w0 : World} {a0 : Act} {e0 e' : Env} {H' : Heap}
    (hsz : nt ≤ a0.tmps.size) (h0 : TR σ B0 e0 a0) (hr0 : HR σ base B0 H0 { w0 with drawn := w0.drawn + 1 }) (h : aopsD call (permD os ord) [] e0 H0 = some (e', H')) {id : Nat} {Q : Exit → Act → World → Prop}
    (hQ : ∀ a' w' B', TR σ B' e' a' → HR σ base B' H' w' → Stp B0 H0 { w0 with drawn := w0.drawn + 1 } B' H' w' → a'.defers = a0.defers → a'.tmps.size = a0.tmps.size → Q .normal a' w') : (Code.region id ops true).wp P Q a0 w0 := by
  obtain ⟨hl1, hl2, F⟩ := okD_facts hk
  obtain ⟨f, f0, f1, f2, f3⟩ := trace h
  generalize hpre : preOf ops.toList = pre at F hk
  generalize hds : permD os ord = ds at *
  rw [List.length_map] at hl1
  generalize hA : (fun (p : Nat) => (ord.map (·.1)).getD p 0) = A at F
  generalize hD : (fun (p : Nat) => ds.getD p ⟨⟨none, none, .new []⟩, false, 0⟩) = D at F
  -- places
  have place : ∀ p, p < ops.size → ∃ ao o, ds[p]? = some ⟨ao, isEff ao.op, (ord.getD p (0, 0)).2⟩ ∧ ops[A p]? = some o ∧ cOper P τ σ ops o = some ao := by
    intro p hp
    have hlen : (permD os ord).length = ord.length := by rw [hds]; omega
    have hop : ord[p]? = some (ord.getD p (0, 0)) := by simp [show p < ord.length by omega]
    obtain ⟨ao, h1, h2⟩ := permD_get hlen p (ord.getD p (0, 0)).1 (ord.getD p (0, 0)).2 hop
    obtain ⟨o, h3, h4⟩ := cOpers_get hos _ ao h1
    refine ⟨ao, o, by rw [← hds]; exact h2, ?_, h4⟩
    have : A p = (ord.getD p (0, 0)).1 := by rw [← hA]; simp [show p < ord.length by omega]
    rw [this]
    simpa using h3
  have dat : ∀ p, p < ops.size → ds[p]? = some (D p) := by
    intro p hp; rw [← hD]; simp [show p < ds.length by omega]
  have T : ∀ p, p < ops.size → PutV call (D p) (f p).1 (f p).2.1 (f (p + 1)).1 (f (p + 1)).2.1 := fun p hp => step_putV (f3 p _ (dat p hp)).1
  have Hs : ∀ p, p < ops.size → (f (p + 1)).2.2 = if (D p).eff then (f p).2.1 :: (f p).2.2 else (f p).2.2 := fun p hp => (f3 p _ (dat p hp)).2.1
  have Bk := fun p (hp : p < ops.size) => (f3 p _ (dat p hp)).2.2
  have Ef : ∀ p, p < ops.size → (D p).eff = isEff (D p).o.op := by
    intro p hp
    obtain ⟨ao, o, h1, _⟩ := place p hp
    have := dat p hp
    rw [h1] at this; injection this with this
    rw [← this]
  rw [hl2] at f1 f2
  refine wp_region_any hm ?_
  generalize hw1 : ({ w0 with drawn := w0.drawn + 1 } : World) = w1 at *
  -- the induction
  have key : ∀ (fuel : Nat) (listed : Array Bool) (a : Act) (w : World), listed.size = ops.size → ((List.range ops.size).filter fun i => !listed.getD i true).length ≤ fuel →
      (∃ B s, Mid σ base ops.size D f B0 H0 w1 a0 (fun p => listed.getD (A p) false = true) B s a w) →
      (∀ i, i < ops.size → listed.getD i false = true → ∀ k ∈ pre.getD i [], listed.getD k false = true) → wpAny P .any ops Q fuel listed a w := by
    have fin : ∀ (listed : Array Bool) (a : Act) (w : World), listed.size = ops.size → Region.ready .any ops listed = [] →
        (∃ B s, Mid σ base ops.size D f B0 H0 w1 a0 (fun p => listed.getD (A p) false = true) B s a w) → Q .normal a w := by
      rintro listed a w hls hrd ⟨B, s, M⟩
      have all : ∀ p, p < ops.size → listed.getD (A p) false = true := by
        intro p
        induction p using Nat.strongRecOn with
        | _ p ih =>
          intro hp
          cases hb : listed.getD (A p) false with
          | true => rfl
          | false =>
            have hlt := F.lt p hp
            have : A p ∈ Region.ready .any ops listed := ready_spec.2 ⟨hlt, by
              simp only [Array.getD, hls, hlt, dif_pos] at hb ⊢; exact hb, fun k hk => by
              obtain ⟨q, hq1, hq2, hq3⟩ := F.ord p hp k hk
              rw [← hq3]; exact ih q hq1 hq2⟩
            rw [hrd] at this; simp at this
      have hh : (f ops.size).2.1 = (f s).2.1 := heap_range F T M.sn (Nat.le_refl _) fun q h1 h2 => by
        cases hqe : (D q).eff with
        | false => rfl
        | true => have := (M.eff q h2 hqe).1 (all q h2); omega
      refine hQ a w B (fun t v hv => ?_) (by rw [← f2, hh]; exact M.hr) (by rw [← f2, hh]; exact M.stp) M.defers M.size
      rw [← f1] at hv
      by_cases hex : ∃ q, q < ops.size ∧ (D q).o.dst = some t
      · obtain ⟨q, hq, hqd⟩ := hex
        rw [lk_after F T hq hqd hq (Nat.le_refl _)] at hv
        exact M.put q hq (all q hq) t hqd v hv
      · rw [lk_before T (Nat.le_refl _) (fun r hr hrd => hex ⟨r, hr, hrd⟩), f0] at hv
        obtain ⟨v', hv', r⟩ := h0 t v hv
        exact ⟨v', by rw [M.old t (fun r hr _ hrd => hex ⟨r, hr, hrd⟩)]; exact hv', r.mono M.stp.ext⟩
    intro fuel
    induction fuel with
    | zero =>
      intro listed a w hls hcnt hM hclo
      have hrd : Region.ready .any ops listed = [] := by
        cases hr : Region.ready .any ops listed with
        | nil => rfl
        | cons i r =>
          have hi : i ∈ Region.ready .any ops listed := by rw [hr]; simp
          obtain ⟨h1, h2, _⟩ := ready_spec.1 hi
          have : i ∈ (List.range ops.size).filter fun i => !listed.getD i true := by simp only [List.mem_filter, List.mem_range]; exact ⟨h1, by rw [h2]; rfl⟩
          have := List.length_pos_of_mem this
          omega
      exact ⟨hrd, fin listed a w hls hrd hM⟩
    | succ fuel ih =>
      intro listed a w hls hcnt hM hclo
      refine ⟨fun hrd => fin listed a w hls hrd hM, fun i hi => ?_⟩
      obtain ⟨hin, hun, hdir⟩ := ready_spec.1 hi
      obtain ⟨p, hp, rfl⟩ := F.sur i hin
      obtain ⟨B, s, M⟩ := hM
      obtain ⟨ao, o, e1, e2, e3⟩ := place p hp
      have ed : D p = ⟨ao, isEff ao.op, (ord.getD p (0, 0)).2⟩ := by
        have := dat p hp; rw [e1] at this; injection this with this; exact this.symm
      have hnl : ¬ listed.getD (A p) false = true := by
        simp only [Array.getD, hls, hin, dif_pos] at hun ⊢; rw [hun]; simp
      have hpre2 : ∀ k ∈ pre.getD (A p) [], listed.getD k false = true := by
        intro k hk
        rcases F.just _ hin k hk with h | ⟨x, hx, hkx⟩
        · exact hdir k h
        · have hxl := hdir x hx
          have hxn : x < ops.size := by
            simp only [Array.getD] at hxl
            split at hxl
            · omega
            · simp at hxl
          exact hclo x hxn hxl k hkx
      have hset : ∀ q, (listed.setIfInBounds (A p) true).getD q false = true ↔ (listed.getD q false = true ∨ q = A p) := by
        intro q
        simp only [Array.getD_eq_getD_getElem?]
        by_cases hq : q = A p
        · subst hq; simp [hls, hin]
        · rw [Array.getElem?_setIfInBounds_ne (Ne.symm hq)]; simp [hq]
      unfold wpOp
      rw [e2]
      simp only
      have hd : ∀ t, o.dst = some t → t < a.tmps.size := by
        intro t ht
        rw [M.size]
        have := List.all_eq_true.1 hdst o (by have := List.mem_of_getElem? (show ops.toList[A p]? = some o by simpa using e2); exact this)
        rw [ht] at this
        exact Nat.lt_of_lt_of_le (of_decide_eq_true this) hsz
      have go := mid_step F T Hs Bk Ef hcall (by rw [f0]; exact h0) M hp hnl (fun q hq hin2 => hpre2 _ hin2)
        (fun q hq hlq r hr hin2 => hclo _ (F.lt q hq) hlq _ hin2) e2 (by rw [ed]; exact e3) hd (Q := Q) (K := wpAny P .any ops Q fuel (listed.setIfInBounds (A p) true))
        (fun a' w' B' s' M' => ih _ a' w' (by simpa using hls) (by
            have hmem : A p ∈ List.range ops.size := List.mem_range.2 hin
            have := filter_lt (p := fun i => !listed.getD i true) (q := fun i => !(listed.setIfInBounds (A p) true).getD i true) (fun y hy => by
              simp only [Array.getD_eq_getD_getElem?] at hy ⊢
              by_cases hq : y = A p
              · subst hq; simp [hls, hin] at hy
              · rw [Array.getElem?_setIfInBounds_ne (Ne.symm hq)] at hy; exact hy) hmem (by rw [hun]; rfl) (by simp only [Array.getD_eq_getD_getElem?]; simp [hls, hin])
            omega)
          ⟨B', s', by
            have : (fun q => (listed.setIfInBounds (A p) true).getD (A q) false = true) = (fun q => listed.getD (A q) false = true ∨ A q = A p) := by
              funext q; exact propext (hset _)
            rw [this]
            exact ⟨M'.sn, fun q hq hqe => by rw [← M'.eff q hq hqe]; refine or_congr Iff.rfl ⟨fun he => ?_, fun he => by rw [he]⟩; by_cases hqp : q = p; exact hqp; exact absurd he (F.inj q p hq hp hqp),
              M'.hr, M'.stp, fun q hq hlq => M'.put q hq (hlq.imp (fun h => h) fun he => by by_cases hqp : q = p; exact hqp; exact absurd he (F.inj q p hq hp hqp)),
              fun t hno => M'.old t fun q hq hlq => hno q hq (hlq.imp (fun h => h) fun he => by rw [he]), M'.defers, M'.size⟩⟩
          (fun j hj hlj k hk => by
            rcases (hset j).1 hlj with h | rfl
            · exact (hset k).2 (.inl (hclo j hj h k hk))
            · exact (hset k).2 (.inl (hpre2 k hk))))
      split at go
      · rename_i hw; rw [if_pos hw]; exact .inl go
      · rename_i hw; rw [if_neg hw]; exact go
  refine key ops.size (Array.replicate ops.size false) a0 w1 (by simp) (Nat.le_trans (List.length_filter_le _ _) (by simp)) ⟨B0, 0, ?_⟩ (fun i hi h => by simp [Array.getD, hi] at h)
  have hno : ∀ p : Nat, ¬ (Array.replicate ops.size false).getD p false = true := fun p => by simp only [Array.getD]; split <;> simp
  exact ⟨Nat.zero_le _, fun p _ _ => ⟨fun h => absurd h (hno _), fun h => by omega⟩, by rw [f0]; exact hr0, by rw [f0]; exact .refl _ _ _, fun q _ h => absurd h (hno _), fun _ _ => rfl, rfl, rfl⟩

end
end Go.Proofs.Ytlbhbjaimcinbaa.AI

/- Statements and functions: what the interpreter says, the machine does. -/
namespace Go.Proofs.Ytlbhbjaimcinbaa.AI
open Go

def Exm : AExit → Exit → Prop
  | .normal, .normal => True
  | .ret, .ret => True
  | .exit i, .exit j => i = j
  | _, _ => False

section
variable {P : Program} {τ σ : Nat → Nat} {base : Nat}
variable {call : Nat → List Value → Heap → Option (Value × Heap)}

def Post (σ : Nat → Nat) (base : Nat) (B : Map) (H : Heap) (w : World) (a : Act) (x : AExit) (e' : Env) (H' : Heap) : Exit → Act → World → Prop :=
  fun ex a' w' => Exm x ex ∧ ∃ B', TR σ B' e' a' ∧ HR σ base B' H' w' ∧ Stp B H w B' H' w' ∧ a'.defers = a.defers ∧ a'.tmps.size = a.tmps.size

theorem lk_keep {e : Env} : ∀ {l : List Nat} {t : Nat} {v : Value}, lk (keep e l) t = some v → lk e t = some v := by
  intro l
  induction l with
  | nil => intro t v h; simp [keep, lk] at h
  | cons u l ih =>
    intro t v h
    simp only [keep] at h
    split at h
    · rename_i w hw
      simp only [lk] at h
      split at h
      · rename_i hu; subst hu; rw [hw]; exact h
      · exact ih h
    · exact ih h

theorem TR.keep {B : Map} {e : Env} {a : Act} (h : TR σ B e a) (l : List Nat) : TR σ B (AI.keep e l) a := fun t v hv => h t v (lk_keep hv)

theorem Stp.of_draw {B B' : Map} {H H' : Heap} {w w' : World} {n : Nat} (h : Stp B H { w with drawn := n } B' H' w') : Stp B H w B' H' w' := ⟨h.ext, h.os, h.tape, h.output, h.size, h.keep, h.own⟩

theorem ax_sound (hm : P.follows .mixedOrders = true) (hcall : CallOK P σ base call) {live : Nat → List Nat} {ordr : Nat → List (Nat × Nat)} {nt n : Nat} : ∀ {c : Code} {ac : ACode}, comp P τ σ live ordr nt c = some ac →
    ∀ {e e' : Env} {H H' : Heap} {x : AExit}, ax call n ac e H = some (x, e', H') → ∀ {B : Map} {w : World} {a : Act}, nt ≤ a.tmps.size → TR σ B e a → HR σ base B H w → c.wp P (Post σ base B H w a x e' H') a w := by
  intro c
  induction c with
  | skip =>
    intro ac hc e e' H H' x h B w a _ ht hr
    simp only [comp, Option.some.injEq] at hc; subst hc
    simp only [ax, Option.some.injEq, Prod.mk.injEq] at h
    obtain ⟨rfl, rfl, rfl⟩ := h
    exact wp_skip ⟨trivial, B, ht, hr, .refl _ _ _, rfl, rfl⟩
  | ret =>
    intro ac hc e e' H H' x h B w a _ ht hr
    simp only [comp, Option.some.injEq] at hc; subst hc
    simp only [ax, Option.some.injEq, Prod.mk.injEq] at h
    obtain ⟨rfl, rfl, rfl⟩ := h
    exact wp_ret ⟨trivial, B, ht, hr, .refl _ _ _, rfl, rfl⟩
  | exit id =>
    intro ac hc e e' H H' x h B w a _ ht hr
    simp only [comp, Option.some.injEq] at hc; subst hc
    simp only [ax, Option.some.injEq, Prod.mk.injEq] at h
    obtain ⟨rfl, rfl, rfl⟩ := h
    exact wp_exit ⟨rfl, B, ht, hr, .refl _ _ _, rfl, rfl⟩
  | seq p q ihp ihq =>
    intro ac hc e e' H H' x h B w a hn ht hr
    simp only [comp, Option.bind_eq_some_iff] at hc
    obtain ⟨p', hp, q', hq, hc⟩ := hc
    injection hc with hc; subst hc
    simp only [ax, Option.bind_eq_some_iff] at h
    obtain ⟨⟨x1, e1, H1⟩, h1, h⟩ := h
    refine wp_seq (wp_mono (ihp hp h1 hn ht hr) ?_)
    rintro ex a1 w1 ⟨hx, B1, t1, r1, s1, d1, z1⟩
    cases x1 with
    | normal =>
      cases ex <;> simp only [Exm] at hx
      refine wp_mono (ihq hq h (by rw [z1]; exact hn) t1 r1) ?_
      rintro ex a2 w2 ⟨hx, B2, t2, r2, s2, d2, z2⟩
      exact ⟨hx, B2, t2, r2, s1.trans s2, d2.trans d1, z2.trans z1⟩
    | ret =>
      simp only [Option.some.injEq, Prod.mk.injEq] at h
      obtain ⟨rfl, rfl, rfl⟩ := h
      cases ex <;> simp only [Exm] at hx
      exact ⟨trivial, B1, t1, r1, s1, d1, z1⟩
    | exit id =>
      simp only [Option.some.injEq, Prod.mk.injEq] at h
      obtain ⟨rfl, rfl, rfl⟩ := h
      cases ex <;> simp only [Exm] at hx
      exact ⟨hx, B1, t1, r1, s1, d1, z1⟩
  | cond k p q ihp ihq =>
    intro ac hc e e' H H' x h B w a hn ht hr
    simp only [comp, Option.bind_eq_some_iff] at hc
    obtain ⟨k', hk, p', hp, q', hq, hc⟩ := hc
    injection hc with hc; subst hc
    simp only [ax] at h
    split at h
    · rename_i hv
      exact wp_cond_true (ev_sound ht hk hv).of_bool (ihp hp h hn ht hr)
    · rename_i hv
      exact wp_cond_false (ev_sound ht hk hv).of_bool (ihq hq h hn ht hr)
    · simp at h
  | block id p ihp =>
    intro ac hc e e' H H' x h B w a hn ht hr
    simp only [comp, Option.map_eq_some_iff] at hc
    obtain ⟨p', hp, rfl⟩ := hc
    simp only [ax, Option.map_eq_some_iff] at h
    obtain ⟨⟨x1, e1, H1⟩, h1, he⟩ := h
    simp only [Prod.mk.injEq] at he
    obtain ⟨hx1, rfl, rfl⟩ := he
    refine wp_block (wp_mono (ihp hp h1 hn ht hr) ?_)
    rintro ex a1 w1 ⟨hx, B1, t1, r1, s1, d1, z1⟩
    cases x1 with
    | normal =>
      rw [if_neg (by simp)] at hx1; subst hx1
      cases ex <;> simp only [Exm] at hx
      exact ⟨trivial, B1, t1, r1, s1, d1, z1⟩
    | ret =>
      rw [if_neg (by simp)] at hx1; subst hx1
      cases ex <;> simp only [Exm] at hx
      exact ⟨trivial, B1, t1, r1, s1, d1, z1⟩
    | exit j =>
      cases ex <;> simp only [Exm] at hx
      subst hx
      simp only [Exit.inBlock]
      by_cases hj : j = id
      · subst hj
        rw [if_pos rfl] at hx1; subst hx1
        rw [if_pos rfl]
        exact ⟨trivial, B1, t1, r1, s1, d1, z1⟩
      · rw [if_neg (by simpa using hj)] at hx1; subst hx1
        rw [if_neg hj]
        exact ⟨rfl, B1, t1, r1, s1, d1, z1⟩
  | loop p ihp =>
    intro ac hc e e' H H' x h B w a hn ht hr
    simp only [comp, Option.map_eq_some_iff] at hc
    obtain ⟨p', hp, rfl⟩ := hc
    simp only [ax] at h
    have key : ∀ (m : Nat) {e : Env} {H : Heap}, iter (ax call n p') m e H = some (x, e', H') → ∀ {B1 : Map} {w1 : World} {a1 : Act}, nt ≤ a1.tmps.size → TR σ B1 e a1 → HR σ base B1 H w1 → 
        ∀ {Q : Exit → Act → World → Prop}, (∀ ex a' w', Post σ base B1 H w1 a1 x e' H' ex a' w' → x ≠ .normal → Q ex a' w') → Code.rounds P p Q m a1 w1 := by
      intro m
      induction m with
      | zero => intro e H h; simp [iter] at h
      | succ m ih =>
        intro e H h B1 w1 a1 hn ht hr Q hQ
        simp only [iter, Option.bind_eq_some_iff] at h
        obtain ⟨⟨x1, e1, H1⟩, h1, h⟩ := h
        rw [rounds_succ]
        refine wp_mono (ihp hp h1 hn ht hr) ?_
        rintro ex a2 w2 ⟨hx, B2, t2, r2, s2, d2, z2⟩
        cases x1 with
        | normal =>
          cases ex <;> simp only [Exm] at hx
          refine ih h (by rw [z2]; exact hn) t2 r2 fun ex a3 w3 hp3 hne => ?_
          obtain ⟨hx3, B3, t3, r3, s3, d3, z3⟩ := hp3
          exact hQ ex a3 w3 ⟨hx3, B3, t3, r3, s2.trans s3, d3.trans d2, z3.trans z2⟩ hne
        | ret =>
          simp only [Option.some.injEq, Prod.mk.injEq] at h
          obtain ⟨rfl, rfl, rfl⟩ := h
          cases ex <;> simp only [Exm] at hx
          exact hQ _ _ _ ⟨trivial, B2, t2, r2, s2, d2, z2⟩ (by simp)
        | exit j =>
          simp only [Option.some.injEq, Prod.mk.injEq] at h
          obtain ⟨rfl, rfl, rfl⟩ := h
          cases ex <;> simp only [Exm] at hx
          exact hQ _ _ _ ⟨hx, B2, t2, r2, s2, d2, z2⟩ (by simp)
    exact wp_loop_rounds n (key n h hn ht hr fun ex a' w' hp _ => hp)
  | region id ops draw =>
    intro ac hc e e' H H' x h B w a hn ht hr
    simp only [comp, Option.bind_eq_some_iff] at hc
    obtain ⟨os, hos, hc⟩ := hc
    split at hc
    · rename_i hd
      have hdst : ∀ o ∈ ops.toList, ∀ t, o.dst = some t → t < a.tmps.size := by
        intro o ho t hto
        have := List.all_eq_true.1 hd o ho
        rw [hto] at this
        exact Nat.lt_of_lt_of_le (of_decide_eq_true this) hn
      cases draw with
      | false =>
        simp only [Bool.false_eq_true, if_false, Option.some.injEq] at hc; subst hc
        simp only [ax, Option.map_eq_some_iff] at h
        obtain ⟨⟨e1, H1⟩, h1, he⟩ := h
        simp only [Prod.mk.injEq] at he
        obtain ⟨rfl, rfl, rfl⟩ := he
        exact wp_region_list (aops_wp hcall hos hdst h1 hr ht fun a' w' B' t1 r1 s1 d1 z1 => ⟨trivial, B', t1.keep _, r1, s1, d1, z1⟩)
      | true =>
        simp only [if_true] at hc
        split at hc
        · rename_i hk
          injection hc with hc; subst hc
          simp only [ax, Option.map_eq_some_iff] at h
          obtain ⟨⟨e1, H1⟩, h1, he⟩ := h
          simp only [Prod.mk.injEq] at he
          obtain ⟨rfl, rfl, rfl⟩ := he
          exact any_wp hm hcall hos hk hd hn ht (hr.same rfl) h1 fun a' w' B' t1 r1 s1 d1 z1 => ⟨trivial, B', t1.keep _, r1, s1.of_draw, d1, z1⟩
        · simp at hc
    · simp at hc
  | _ => intro ac hc; simp [comp] at hc

theorem lk_argsE : ∀ {vs : List Value} {k t : Nat} {v : Value}, lk (argsE k vs) t = some v → k ≤ t ∧ vs[t - k]? = some v := by
  intro vs
  induction vs with
  | nil => intro k t v h; simp [argsE, lk] at h
  | cons x vs ih =>
    intro k t v h
    simp only [argsE, lk] at h
    split at h
    · rename_i hk; subst hk; injection h with h; subst h; simp
    · obtain ⟨h1, h2⟩ := ih h
      refine ⟨by omega, ?_⟩
      rw [show t - k = (t - (k + 1)) + 1 by omega, List.getElem?_cons_succ]
      exact h2

def resOne (tmps : Array Value) : ResultVar → Sem Value
  | .tmp t => pure (tmps.getD t undef)
  | .cell x t => do loadVar t (← asAddr (tmps.getD x undef))

theorem ares_run {B : Map} {H : Heap} {w : World} {e : Env} {a : Act} (hr : HR σ base B H w) (ht : TR σ B e a) : ∀ {rs : List ResultVar} {ars : List ARes} {vs : List Value}, cRes P rs = some ars → ares e H ars = some vs →
    ∃ vs', (rs.mapM (resOne a.tmps)).run P w = .ok vs' w ∧ VRs σ B vs vs' := by
  intro rs
  induction rs with
  | nil =>
    intro ars vs hc h
    simp only [cRes, Option.some.injEq] at hc; subst hc
    simp only [ares, Option.some.injEq] at h; subst h
    exact ⟨[], by simp, VRs.nil⟩
  | cons r rs ih =>
    intro ars vs hc h
    cases r with
    | tmp t =>
      simp only [cRes, Option.map_eq_some_iff] at hc
      obtain ⟨ars', hars, rfl⟩ := hc
      simp only [ares, Option.bind_eq_some_iff, Option.map_eq_some_iff] at h
      obtain ⟨v, hv, vs1, hvs1, rfl⟩ := h
      obtain ⟨v', hv', rv⟩ := ht t v hv
      obtain ⟨vs', hrun, rvs⟩ := ih hars hvs1
      refine ⟨v' :: vs', ?_, rvs.cons rv⟩
      have hg : a.tmps.getD t undef = v' := by simp [Array.getD_eq_getD_getElem?, hv']
      have h1 : (resOne a.tmps (.tmp t)).run P w = .ok v' w := by simp only [resOne, hg, Sem.run_pure]
      simp only [List.mapM_cons, Sem.run_bind, h1, Result.andThen_ok, hrun, Sem.run_pure]
    | cell x t =>
      simp only [cRes, Option.bind_eq_some_iff] at hc
      obtain ⟨n, hn, hc⟩ := hc
      split at hc
      · simp at hc
      · simp only [Option.map_eq_some_iff] at hc
        obtain ⟨ars', hars, rfl⟩ := hc
        simp only [ares, Option.bind_eq_some_iff, Option.map_eq_some_iff] at h
        obtain ⟨va, hva, ad, had, v, hv, vs1, hvs1, rfl⟩ := h
        obtain ⟨va', hva', rva⟩ := ht x va hva
        obtain ⟨rfl, hd⟩ := addrOf_eq had
        obtain ⟨p, hp, rfl⟩ := rva.of_ptr
        rw [hd] at hv
        obtain ⟨v', hrl, rv⟩ := loadAt_run (P := P) hr hp hn hv
        obtain ⟨vs', hrun, rvs⟩ := ih hars hvs1
        refine ⟨v' :: vs', ?_, rvs.cons rv⟩
        have hg : a.tmps.getD x undef = .pointer (some ⟨p.blk, p.off + ad.off, none⟩) := by simp [Array.getD_eq_getD_getElem?, hva']
        have h1 : (resOne a.tmps (.cell x t)).run P w = .ok v' w := by simp only [resOne, hg, asAddr, Sem.run_bind, Sem.run_pure, Result.andThen_ok, hrl]
        simp only [List.mapM_cons, Sem.run_bind, h1, Result.andThen_ok, hrun, Sem.run_pure]

theorem results_run {fn : Func} {B : Map} {H : Heap} {w : World} {e : Env} {a : Act} (hr : HR σ base B H w) (ht : TR σ B e a) {ars : List ARes} {vs : List Value} (hc : cRes P fn.results.toList = some ars) (h : ares e H ars = some vs) :
    ∃ v', (results fn a.tmps).run P w = .ok v' w ∧ VR σ B (tup vs) v' := by
  obtain ⟨vs', hrun, rvs⟩ := ares_run (P := P) hr ht hc h
  have hm : (fn.results.mapM (resOne a.tmps)).run P w = .ok ⟨vs'⟩ w := by
    rw [← Array.toList_mapM] at hrun
    simp only [Sem.run_map] at hrun
    cases hq : (fn.results.mapM (resOne a.tmps)).run P w with
    | ok r w1 =>
      rw [hq] at hrun
      simp only [Result.andThen_ok, Result.ok.injEq] at hrun
      obtain ⟨h0, rfl⟩ := hrun
      rw [← h0]
    | halt x w1 => rw [hq] at hrun; simp at hrun
  refine ⟨tup vs', ?_, ?_⟩
  · show (do let vs ← fn.results.mapM (resOne a.tmps); pure (if h : vs.size = 1 then vs[0] else .tuple vs) : Sem Value).run P w = _
    rw [Sem.run_bind, hm, Result.andThen_ok, Sem.run_pure]
    congr 1
    match vs' with
    | [] => rfl
    | [v] => rfl
    | v :: u :: r => rfl
  · match vs, rvs with
    | [], rvs =>
      have : vs' = [] := List.eq_nil_of_length_eq_zero rvs.1.symm
      subst this; exact .tuple' VRs.nil
    | [v], rvs =>
      obtain ⟨v', m, rfl, r1, r2⟩ := rvs.of_cons
      have : m = [] := List.eq_nil_of_length_eq_zero r2.1.symm
      subst this; exact r1
    | v :: u :: r, rvs =>
      obtain ⟨v', m, rfl, r1, r2⟩ := rvs.of_cons
      obtain ⟨u', m', rfl, r3, r4⟩ := r2.of_cons
      exact .tuple' ((r4.cons r3).cons r1)

/-- The table's functions are those of the program. -/
def Linked (P : Program) (σ : Nat → Nat) (tbl : Nat → Option AFn) : Prop :=
  ∀ (i : Nat) (F : AFn), tbl i = some F → ∃ (fn : Func) (τ : Nat → Nat) (live : Nat → List Nat) (ordr : Nat → List (Nat × Nat)), P.funcs[σ i]? = some fn ∧ compF P τ σ live ordr fn F.trunc F.iso = some F

theorem constV_ids : ∀ (d : Nat) (v : Value), constV d v = true → idsB d 0 v = true := by
  intro d
  induction d with
  | zero => intro v h; simp [constV] at h
  | succ d ih =>
    intro v h
    cases v with
    | agg cs => simp only [constV, idsB, List.all_eq_true] at h ⊢; exact fun x hx => ih x (h x hx)
    | tuple cs => simp only [constV, idsB, List.all_eq_true] at h ⊢; exact fun x hx => ih x (h x hx)
    | pointer a => cases a with
      | none => rfl
      | some a => simp [constV, AI.atom] at h
    | slice a n c => cases a with
      | none => exact h
      | some a => simp [constV, AI.atom] at h
    | func f a b => simp [constV, AI.atom] at h
    | _ => exact h

/-- A value that leads to no memory is related alike whatever the map. -/
theorem VR.anyMap {d : Nat} {B B' : Map} {v v' : Value} (h : constV d v = true) (r : VR σ B v v') : VR σ B' v v' := by
  have := r.cut 0 d (constV_ids d v h)
  exact this.mono fun i p hp => by simp [AI.cut] at hp

theorem HR.nothing {w : World} (h : base ≤ w.heap.size) : HR σ base (fun _ => none) [] w :=
  ⟨fun i b hi => by simp [hget] at hi, fun i b hi => by simp [hget] at hi, fun i j b c p q hi => by simp [hget] at hi, fun i p hp => by simp at hp, h⟩

theorem HR.beside {B : Map} {H : Heap} {w w' : World} (h : HR σ base B H w) (hs : w.heap.size ≤ w'.heap.size) (hk : ∀ g, g < w.heap.size → w'.heap[g]? = w.heap[g]?) : HR σ base B H w' := by
  refine ⟨fun i b hi hb => ?_, fun i b hi hb => ?_, h.inj, h.dom, Nat.le_trans h.big hs⟩
  · obtain ⟨g, f, z, cs, ty, fr, h1, h2, h3, h4⟩ := h.rw i b hi hb
    exact ⟨g, f, z, cs, ty, fr, h1, h2, by rw [hk g (Array.getElem?_eq_some_iff.1 h3).1]; exact h3, h4⟩
  · obtain ⟨g, o, h1, h2, h3⟩ := h.ro i b hi hb
    refine ⟨g, o, h1, h2, fun j x hx => ?_⟩
    obtain ⟨x', hx', hr⟩ := h3 j x hx
    refine ⟨x', ?_, hr⟩
    rw [← hx']
    unfold World.cell?
    rw [hk g (Nat.lt_of_lt_of_le h2 h.big)]

theorem Stp.beside {B B1 : Map} {H H1 : Heap} {w w' : World} (s : Stp (fun _ => none) [] w B1 H1 w') : Stp B H w B H w' :=
  ⟨.refl _, s.os, s.tape, s.output, s.size, fun g hg _ => s.keep g hg (by rintro ⟨i, b, p, hi, _⟩; simp [hget] at hi), fun g hg => .inl hg⟩

theorem ac_sound (hm : P.follows .mixedOrders = true) {tbl : Nat → Option AFn} (hl : Linked P σ tbl) : ∀ n, CallOK P σ base (ac tbl n) := by
  intro n
  induction n with
  | zero => intro f vs H v H' h; simp [ac] at h
  | succ n ih =>
    intro f vs H v H' h
    simp only [ac, Option.bind_eq_some_iff] at h
    obtain ⟨F, hF, h⟩ := h
    obtain ⟨fn, τ, live, ordr, hfn, hcomp⟩ := hl f F hF
    simp only [compF] at hcomp
    split at hcomp
    · simp at hcomp
    · rename_i hname
      simp only [Option.bind_eq_some_iff, Option.map_eq_some_iff] at hcomp
      obtain ⟨c, hc, b, hb, rs, hrs, hFe⟩ := hcomp
      obtain ⟨nt0, b0, rs0, tr⟩ := F
      simp only [AFn.mk.injEq, and_true] at hFe
      obtain ⟨rfl, rfl, rfl⟩ := hFe
      refine ⟨⟨fn, hfn, by simpa using hname, by rw [hc]; rfl⟩, fun B w vs' hr hv => ?_⟩
      split at h
      · rename_i hlen
        simp only at hlen
        split at h
        · rename_i hiso
          simp only [Bool.and_eq_true] at hiso
          simp only [Option.bind_eq_some_iff] at h
          obtain ⟨⟨v1, H1⟩, hc1, h⟩ := h
          split at h
          · rename_i hq
            simp only [Bool.and_eq_true] at hq
            simp only [Option.some.injEq, Prod.mk.injEq] at h
            obtain ⟨rfl, rfl⟩ := h
            have hvs : VRs σ (fun _ => none) vs vs' := ⟨hv.1, fun j x x' hx hx' => VR.anyMap (List.all_eq_true.1 hiso.2 x (List.mem_of_getElem? hx)) (hv.2 j x x' hx hx')⟩
            refine ((ih f vs [] v1 H1 hc1).2 _ w vs' (HR.nothing hr.big) hvs).mono fun e w1 he => ?_
            obtain ⟨v', B1, he, r1, r2, r3⟩ := he
            exact ⟨v', B, he, VR.anyMap hq.1 r1, hr.beside r3.size (fun g hg => r3.keep g hg (by rintro ⟨i, b, p, hi, _⟩; simp [hget] at hi)), r3.beside⟩
          · simp at h
        simp only [Option.bind_eq_some_iff] at h
        obtain ⟨⟨x, e1, H1⟩, hax, h⟩ := h
        have hx : ∀ i, x ≠ .exit i := fun i hi => by subst hi; simp at h
        have h2 : (ares e1 H1 rs).map (fun vs1 => fin tr H.length (tup vs1) H1) = some (v, H') := by
          cases x with
          | exit i => exact absurd rfl (hx i)
          | normal => exact h
          | ret => exact h
        simp only [Option.map_eq_some_iff] at h2
        obtain ⟨rvs, hrvs, hfin⟩ := h2
        have hvl : vs'.length = vs.length := hv.1.symm
        refine calls_of_wp hfn hc (wp_mono (ax_sound hm ih hb hax (B := B) (w := w) (a := { tmps := ⟨vs'⟩ ++ Array.replicate (fn.ntmps - vs'.length) undef, defers := [] }) (by simp; omega) ?_ hr) ?_)
        · intro t u hu
          obtain ⟨_, hu⟩ := lk_argsE hu
          rw [Nat.sub_zero] at hu
          obtain ⟨u', hu', r⟩ := hv.get hu
          refine ⟨u', ?_, r⟩
          have : t < vs'.length := (List.getElem?_eq_some_iff.1 hu').1
          simp [Array.getElem?_append, this]
          exact (List.getElem?_eq_some_iff.1 hu').2
        · rintro ex a1 w1 ⟨hxe, B1, t1, r1, s1, d1, z1⟩
          obtain ⟨v', hrun, rv⟩ := results_run (P := P) (fn := fn) r1 t1 hrs hrvs
          have goal : ∃ v'', Ending.returned v' = Ending.returned v'' ∧ ∃ B', VR σ B' v v'' ∧ HR σ base B' H' w1 ∧ Stp B H w B' H' w1 := by
            refine ⟨v', rfl, ?_⟩
            unfold fin at hfin
            split at hfin
            · rename_i hcond
              simp only [Bool.and_eq_true] at hcond
              obtain ⟨⟨_, hids⟩, hall⟩ := hcond
              simp only [Prod.mk.injEq] at hfin
              obtain ⟨rfl, rfl⟩ := hfin
              refine ⟨AI.cut H.length B1, rv.cut H.length 9 hids, r1.cut hall, ⟨fun i p hp => ?_, s1.os, s1.tape, s1.output, s1.size, s1.keep, fun g hg => s1.own g ?_⟩⟩
              · have := hr.dom i p hp
                simp only [AI.cut, if_pos this]
                exact s1.ext i p hp
              · obtain ⟨i, b, p, hi, hb2, hp, hg⟩ := hg
                obtain ⟨hlt, hi'⟩ := hget_take hi
                simp only [AI.cut, if_pos hlt] at hp
                exact ⟨i, b, p, hi', hb2, hp, hg⟩
            · simp only [Prod.mk.injEq] at hfin
              obtain ⟨rfl, rfl⟩ := hfin
              exact ⟨B1, rv, r1, s1⟩
          obtain ⟨v'', e1', B', g1, g2, g3⟩ := goal
          have hp : a1.defers = [] ∧ ∃ v, (results fn a1.tmps).run P w1 = .ok v w1 ∧ ∃ v' B', Ending.returned v = .returned v' ∧ VR σ B' _ v' ∧ HR σ base B' H' w1 ∧ Stp B H w B' H' w1 := ⟨d1, v', hrun, v'', B', e1', g1, g2, g3⟩
          cases ex <;> cases x <;> simp only [Exm] at hxe <;> first | exact hp | exact absurd rfl (hx _)
      · simp at h
end
end Go.Proofs.Ytlbhbjaimcinbaa.AI

/- The interpreter without a bound on rounds, and how a function is reckoned through. -/
namespace Go.Proofs.Ytlbhbjaimcinbaa.AI
open Go

abbrev CallF := Nat → List Value → Heap → Option (Value × Heap)
def Le (c c' : CallF) : Prop := ∀ f vs H r, c f vs H = some r → c' f vs H = some r

section
variable {c c' : CallF}

theorem dval_mono (h : Le c c') {op : AOp} {e : Env} {H : Heap} {r : Value × Heap} (hd : dval c op e H = some r) : dval c' op e H = some r := by
  unfold dval at hd ⊢
  split at hd
  · simp only [Option.bind_eq_some_iff] at hd ⊢
    obtain ⟨vs, hvs, hd⟩ := hd
    exact ⟨vs, hvs, h _ _ _ _ hd⟩
  · split at hd
    · simp only [Option.bind_eq_some_iff] at hd ⊢
      obtain ⟨vs, hvs, hd⟩ := hd
      exact ⟨vs, hvs, h _ _ _ _ hd⟩
    · simp at hd
  · exact hd

theorem step_mono (h : Le c c') {o : AOper} {e : Env} {H : Heap} {r : Env × Heap} (hd : step c o e H = some r) : step c' o e H = some r := by
  unfold step at hd ⊢
  split at hd
  · simp only [does, Option.map_eq_some_iff] at hd ⊢
    obtain ⟨x, hx, he⟩ := hd
    exact ⟨x, dval_mono h hx, he⟩
  · exact hd
  · simp at hd

theorem aops_mono (h : Le c c') : ∀ {ops : List AOper} {e : Env} {H : Heap} {r : Env × Heap}, aops c ops e H = some r → aops c' ops e H = some r := by
  intro ops
  induction ops with
  | nil => intro e H r hd; exact hd
  | cons o ops ih =>
    intro e H r hd
    simp only [aops, Option.bind_eq_some_iff] at hd ⊢
    obtain ⟨x, hx, hd⟩ := hd
    exact ⟨x, step_mono h hx, ih hd⟩

theorem aopsD_mono (h : Le c c') : ∀ {ops : List DOper} {hist : List Heap} {e : Env} {H : Heap} {r : Env × Heap}, aopsD c ops hist e H = some r → aopsD c' ops hist e H = some r := by
  intro ops
  induction ops with
  | nil => intro hist e H r hd; exact hd
  | cons o ops ih =>
    intro hist e H r hd
    simp only [aopsD, Option.bind_eq_some_iff] at hd ⊢
    obtain ⟨x, hx, hd⟩ := hd
    refine ⟨x, step_mono h hx, ?_⟩
    split at hd
    · rename_i hb; rw [if_pos hb]; exact ih hd
    · simp at hd

theorem iter_mono {f g : Env → Heap → Out} (h : ∀ e H r, f e H = some r → g e H = some r) : ∀ {n m : Nat}, n ≤ m → ∀ {e : Env} {H : Heap} {r}, iter f n e H = some r → iter g m e H = some r := by
  intro n
  induction n with
  | zero => intro m _ e H r hd; simp [iter] at hd
  | succ n ih =>
    intro m hm e H r hd
    obtain ⟨m, rfl⟩ : ∃ k, m = k + 1 := ⟨m - 1, by omega⟩
    simp only [iter, Option.bind_eq_some_iff] at hd ⊢
    obtain ⟨⟨x, e1, H1⟩, hx, hd⟩ := hd
    refine ⟨(x, e1, H1), h _ _ _ hx, ?_⟩
    cases x with
    | normal => exact ih (by omega) hd
    | ret => exact hd
    | exit i => exact hd

theorem ax_mono (h : Le c c') {n m : Nat} (hnm : n ≤ m) : ∀ {k : ACode} {e : Env} {H : Heap} {r}, ax c n k e H = some r → ax c' m k e H = some r := by
  intro k
  induction k with
  | skip => intro e H r hd; exact hd
  | ret => intro e H r hd; exact hd
  | exit id => intro e H r hd; exact hd
  | seq a b iha ihb =>
    intro e H r hd
    simp only [ax, Option.bind_eq_some_iff] at hd ⊢
    obtain ⟨⟨x, e1, H1⟩, hx, hd⟩ := hd
    refine ⟨(x, e1, H1), iha hx, ?_⟩
    cases x with
    | normal => exact ihb hd
    | ret => exact hd
    | exit i => exact hd
  | cond q a b iha ihb =>
    intro e H r hd
    simp only [ax] at hd ⊢
    split at hd
    · exact iha hd
    · exact ihb hd
    · simp at hd
  | block id a iha =>
    intro e H r hd
    simp only [ax, Option.map_eq_some_iff] at hd ⊢
    obtain ⟨x, hx, hd⟩ := hd
    exact ⟨x, iha hx, hd⟩
  | loop a iha =>
    intro e H r hd
    simp only [ax] at hd ⊢
    exact iter_mono (fun e H r h => iha h) hnm hd
  | reg ops live =>
    intro e H r hd
    simp only [ax, Option.map_eq_some_iff] at hd ⊢
    obtain ⟨x, hx, hd⟩ := hd
    exact ⟨x, aops_mono h hx, hd⟩
  | regd ops live =>
    intro e H r hd
    simp only [ax, Option.map_eq_some_iff] at hd ⊢
    obtain ⟨x, hx, hd⟩ := hd
    exact ⟨x, aopsD_mono h hx, hd⟩
end

section
variable (tbl : Nat → Option AFn)

theorem ac_mono : ∀ {n m : Nat}, n ≤ m → Le (ac tbl n) (ac tbl m) := by
  intro n
  induction n with
  | zero => intro m _ f vs H r h; simp [ac] at h
  | succ n ih =>
    intro m hm f vs H r h
    obtain ⟨m, rfl⟩ : ∃ k, m = k + 1 := ⟨m - 1, by omega⟩
    simp only [ac, Option.bind_eq_some_iff] at h ⊢
    obtain ⟨F, hF, h⟩ := h
    refine ⟨F, hF, ?_⟩
    split at h
    · rename_i hl
      rw [if_pos hl]
      split at h
      · rename_i hiso
        rw [if_pos hiso]
        simp only [Option.bind_eq_some_iff] at h ⊢
        obtain ⟨x, hx, h⟩ := h
        exact ⟨x, ih (by omega) _ _ _ _ hx, h⟩
      · rename_i hiso
        rw [if_neg hiso]
        simp only [Option.bind_eq_some_iff] at h ⊢
        obtain ⟨x, hx, h⟩ := h
        exact ⟨x, ax_mono (ih (by omega)) (by omega) hx, h⟩
    · simp at h

/-- What a call comes to. -/
noncomputable def AC : CallF := fun f vs H => by
  classical exact if h : ∃ r, ∃ n, ac tbl n f vs H = some r then some h.choose else none

theorem AC_iff {f : Nat} {vs : List Value} {H : Heap} {r : Value × Heap} : AC tbl f vs H = some r ↔ ∃ n, ac tbl n f vs H = some r := by
  unfold AC
  constructor
  · intro h
    split at h
    · rename_i hx
      injection h with h
      rw [← h]; exact hx.choose_spec
    · simp at h
  · rintro ⟨n, hn⟩
    have hx : ∃ r, ∃ n, ac tbl n f vs H = some r := ⟨r, n, hn⟩
    rw [dif_pos hx]
    obtain ⟨m, hm⟩ := hx.choose_spec
    have h1 := ac_mono tbl (Nat.le_max_left n m) _ _ _ _ hn
    have h2 := ac_mono tbl (Nat.le_max_right n m) _ _ _ _ hm
    rw [h1] at h2
    injection h2 with h2
    rw [← h2]

theorem ac_AC (n : Nat) : Le (ac tbl n) (AC tbl) := fun _ _ _ _ h => (AC_iff tbl).2 ⟨n, h⟩

theorem AC_sound {P : Program} {σ : Nat → Nat} {base : Nat} (hm : P.follows .mixedOrders = true) (hl : Linked P σ tbl) : CallOK P σ base (AC tbl) := by
  intro f vs H v H' h
  obtain ⟨n, hn⟩ := (AC_iff tbl).1 h
  exact ac_sound hm hl n f vs H v H' hn

variable {tbl}
theorem dval_fin {op : AOp} {e : Env} {H : Heap} {r : Value × Heap} (h : dval (AC tbl) op e H = some r) : ∃ n, dval (ac tbl n) op e H = some r := by
  unfold dval at h ⊢
  split at h
  · simp only [Option.bind_eq_some_iff] at h ⊢
    obtain ⟨vs, hvs, h⟩ := h
    obtain ⟨n, hn⟩ := (AC_iff tbl).1 h
    exact ⟨n, vs, hvs, hn⟩
  · split at h
    · simp only [Option.bind_eq_some_iff] at h ⊢
      obtain ⟨vs, hvs, h⟩ := h
      obtain ⟨n, hn⟩ := (AC_iff tbl).1 h
      exact ⟨n, vs, hvs, hn⟩
    · simp at h
  · exact ⟨0, h⟩

theorem step_fin {o : AOper} {e : Env} {H : Heap} {r : Env × Heap} (h : step (AC tbl) o e H = some r) : ∃ n, step (ac tbl n) o e H = some r := by
  unfold step at h ⊢
  split at h
  · simp only [does, Option.map_eq_some_iff] at h
    obtain ⟨x, hx, he⟩ := h
    obtain ⟨n, hn⟩ := dval_fin hx
    exact ⟨n, by simp only [does, Option.map_eq_some_iff]; exact ⟨x, hn, he⟩⟩
  · exact ⟨0, h⟩
  · simp at h

theorem aops_fin : ∀ {ops : List AOper} {e : Env} {H : Heap} {r : Env × Heap}, aops (AC tbl) ops e H = some r → ∃ n, aops (ac tbl n) ops e H = some r := by
  intro ops
  induction ops with
  | nil => intro e H r h; exact ⟨0, h⟩
  | cons o ops ih =>
    intro e H r h
    simp only [aops, Option.bind_eq_some_iff] at h
    obtain ⟨x, hx, h⟩ := h
    obtain ⟨n, hn⟩ := step_fin hx
    obtain ⟨m, hm⟩ := ih h
    refine ⟨max n m, ?_⟩
    simp only [aops, Option.bind_eq_some_iff]
    exact ⟨x, step_mono (ac_mono tbl (Nat.le_max_left n m)) hn, aops_mono (ac_mono tbl (Nat.le_max_right n m)) hm⟩

theorem aopsD_fin : ∀ {ops : List DOper} {hist : List Heap} {e : Env} {H : Heap} {r : Env × Heap}, aopsD (AC tbl) ops hist e H = some r → ∃ n, aopsD (ac tbl n) ops hist e H = some r := by
  intro ops
  induction ops with
  | nil => intro hist e H r h; exact ⟨0, h⟩
  | cons o ops ih =>
    intro hist e H r h
    simp only [aopsD, Option.bind_eq_some_iff] at h
    obtain ⟨x, hx, h⟩ := h
    split at h
    · rename_i hb
      obtain ⟨n, hn⟩ := step_fin hx
      obtain ⟨m, hm⟩ := ih h
      refine ⟨max n m, ?_⟩
      simp only [aopsD, Option.bind_eq_some_iff]
      exact ⟨x, step_mono (ac_mono tbl (Nat.le_max_left n m)) hn, by rw [if_pos hb]; exact aopsD_mono (ac_mono tbl (Nat.le_max_right n m)) hm⟩
    · simp at h

theorem ax_fin {k : Nat} : ∀ {c : ACode} {e : Env} {H : Heap} {r}, ax (AC tbl) k c e H = some r → ∃ n, ax (ac tbl n) k c e H = some r := by
  intro c
  induction c with
  | skip => intro e H r h; exact ⟨0, h⟩
  | ret => intro e H r h; exact ⟨0, h⟩
  | exit id => intro e H r h; exact ⟨0, h⟩
  | seq a b iha ihb =>
    intro e H r h
    simp only [ax, Option.bind_eq_some_iff] at h
    obtain ⟨⟨x, e1, H1⟩, hx, h⟩ := h
    obtain ⟨n, hn⟩ := iha hx
    cases x with
    | normal =>
      obtain ⟨m, hm⟩ := ihb h
      refine ⟨max n m, ?_⟩
      simp only [ax, Option.bind_eq_some_iff]
      exact ⟨_, ax_mono (ac_mono tbl (Nat.le_max_left n m)) (Nat.le_refl _) hn, ax_mono (ac_mono tbl (Nat.le_max_right n m)) (Nat.le_refl _) hm⟩
    | ret => exact ⟨n, by simp only [ax, Option.bind_eq_some_iff]; exact ⟨_, hn, h⟩⟩
    | exit i => exact ⟨n, by simp only [ax, Option.bind_eq_some_iff]; exact ⟨_, hn, h⟩⟩
  | cond q a b iha ihb =>
    intro e H r h
    simp only [ax] at h ⊢
    split at h
    · exact iha h
    · exact ihb h
    · simp at h
  | block id a iha =>
    intro e H r h
    simp only [ax, Option.map_eq_some_iff] at h ⊢
    obtain ⟨x, hx, h⟩ := h
    obtain ⟨n, hn⟩ := iha hx
    exact ⟨n, x, hn, h⟩
  | loop a iha =>
    intro e H r h
    simp only [ax] at h ⊢
    have key : ∀ (k' : Nat) {e : Env} {H : Heap} {r}, iter (ax (AC tbl) k a) k' e H = some r → ∃ n, iter (ax (ac tbl n) k a) k' e H = some r := by
      intro k'
      induction k' with
      | zero => intro e H r h; simp [iter] at h
      | succ k' ih =>
        intro e H r h
        simp only [iter, Option.bind_eq_some_iff] at h
        obtain ⟨⟨x, e1, H1⟩, hx, h⟩ := h
        obtain ⟨n, hn⟩ := iha hx
        cases x with
        | normal =>
          obtain ⟨m, hm⟩ := ih h
          refine ⟨max n m, ?_⟩
          simp only [iter, Option.bind_eq_some_iff]
          exact ⟨_, ax_mono (ac_mono tbl (Nat.le_max_left n m)) (Nat.le_refl _) hn, iter_mono (fun e H r h => ax_mono (ac_mono tbl (Nat.le_max_right n m)) (Nat.le_refl _) h) (Nat.le_refl _) hm⟩
        | ret => exact ⟨n, by simp only [iter, Option.bind_eq_some_iff]; exact ⟨_, hn, h⟩⟩
        | exit i => exact ⟨n, by simp only [iter, Option.bind_eq_some_iff]; exact ⟨_, hn, h⟩⟩
    exact key k h
  | reg ops live =>
    intro e H r h
    simp only [ax, Option.map_eq_some_iff] at h ⊢
    obtain ⟨x, hx, h⟩ := h
    obtain ⟨n, hn⟩ := aops_fin hx
    exact ⟨n, x, hn, h⟩
  | regd ops live =>
    intro e H r h
    simp only [ax, Option.map_eq_some_iff] at h ⊢
    obtain ⟨x, hx, h⟩ := h
    obtain ⟨n, hn⟩ := aopsD_fin hx
    exact ⟨n, x, hn, h⟩

/-! ## Reckoning through a text: what holds at its end -/
variable (tbl)
def AW (c : ACode) (e : Env) (H : Heap) (Q : AExit → Env → Heap → Prop) : Prop := ∃ n x e' H', ax (AC tbl) n c e H = some (x, e', H') ∧ Q x e' H'
def AO (ops : List AOper) (e : Env) (H : Heap) (Q : Env → Heap → Prop) : Prop := ∃ e' H', aops (AC tbl) ops e H = some (e', H') ∧ Q e' H'
def AOD (ops : List DOper) (hist : List Heap) (e : Env) (H : Heap) (Q : Env → Heap → Prop) : Prop := ∃ e' H', aopsD (AC tbl) ops hist e H = some (e', H') ∧ Q e' H'
variable {tbl}
variable {e : Env} {H : Heap} {Q : AExit → Env → Heap → Prop}

theorem Le.refl (c : CallF) : Le c c := fun _ _ _ _ h => h

theorem AW.mono {c : ACode} {Q' : AExit → Env → Heap → Prop} (h : AW tbl c e H Q) (hq : ∀ x e H, Q x e H → Q' x e H) : AW tbl c e H Q' := by
  obtain ⟨n, x, e', H', h1, h2⟩ := h
  exact ⟨n, x, e', H', h1, hq _ _ _ h2⟩

theorem AW_skip : AW tbl .skip e H Q = Q .normal e H := by
  apply propext; constructor
  · rintro ⟨n, x, e', H', h, hq⟩
    simp only [ax, Option.some.injEq, Prod.mk.injEq] at h
    obtain ⟨rfl, rfl, rfl⟩ := h; exact hq
  · intro h; exact ⟨0, _, _, _, rfl, h⟩
theorem AW_ret : AW tbl .ret e H Q = Q .ret e H := by
  apply propext; constructor
  · rintro ⟨n, x, e', H', h, hq⟩
    simp only [ax, Option.some.injEq, Prod.mk.injEq] at h
    obtain ⟨rfl, rfl, rfl⟩ := h; exact hq
  · intro h; exact ⟨0, _, _, _, rfl, h⟩
theorem AW_exit {id : Nat} : AW tbl (.exit id) e H Q = Q (.exit id) e H := by
  apply propext; constructor
  · rintro ⟨n, x, e', H', h, hq⟩
    simp only [ax, Option.some.injEq, Prod.mk.injEq] at h
    obtain ⟨rfl, rfl, rfl⟩ := h; exact hq
  · intro h; exact ⟨0, _, _, _, rfl, h⟩

/-- What follows a part that has ended. -/
def Then (K : Env → Heap → Prop) (Q : AExit → Env → Heap → Prop) : AExit → Env → Heap → Prop
  | .normal, e, H => K e H
  | x, e, H => Q x e H
theorem Then_normal {K : Env → Heap → Prop} : Then K Q .normal e H = K e H := rfl
theorem Then_ret {K : Env → Heap → Prop} : Then K Q .ret e H = Q .ret e H := rfl
theorem Then_exit {K : Env → Heap → Prop} {id : Nat} : Then K Q (.exit id) e H = Q (.exit id) e H := rfl

theorem AW_seq {a b : ACode} : AW tbl (.seq a b) e H Q = AW tbl a e H (Then (fun e H => AW tbl b e H Q) Q) := by
  apply propext; constructor
  · rintro ⟨n, x, e', H', h, hq⟩
    simp only [ax, Option.bind_eq_some_iff] at h
    obtain ⟨⟨x1, e1, H1⟩, h1, h⟩ := h
    refine ⟨n, x1, e1, H1, h1, ?_⟩
    cases x1 with
    | normal => exact ⟨n, x, e', H', h, hq⟩
    | ret => simp only [Option.some.injEq, Prod.mk.injEq] at h; obtain ⟨rfl, rfl, rfl⟩ := h; exact hq
    | exit i => simp only [Option.some.injEq, Prod.mk.injEq] at h; obtain ⟨rfl, rfl, rfl⟩ := h; exact hq
  · rintro ⟨n, x1, e1, H1, h1, hq⟩
    cases x1 with
    | normal =>
      obtain ⟨m, x, e', H', h, hq⟩ := hq
      refine ⟨max n m, x, e', H', ?_, hq⟩
      simp only [ax, Option.bind_eq_some_iff]
      exact ⟨_, ax_mono (Le.refl _) (Nat.le_max_left n m) h1, ax_mono (Le.refl _) (Nat.le_max_right n m) h⟩
    | ret => exact ⟨n, _, _, _, by simp only [ax, Option.bind_eq_some_iff]; exact ⟨_, h1, rfl⟩, hq⟩
    | exit i => exact ⟨n, _, _, _, by simp only [ax, Option.bind_eq_some_iff]; exact ⟨_, h1, rfl⟩, hq⟩

theorem AW_cond {c : Arg} {a b : ACode} : AW tbl (.cond c a b) e H Q = ((ev e c = some (.bool true) ∧ AW tbl a e H Q) ∨ (ev e c = some (.bool false) ∧ AW tbl b e H Q)) := by
  apply propext; constructor
  · rintro ⟨n, x, e', H', h, hq⟩
    simp only [ax] at h
    split at h
    · exact .inl ⟨‹_›, n, x, e', H', h, hq⟩
    · exact .inr ⟨‹_›, n, x, e', H', h, hq⟩
    · simp at h
  · rintro (⟨hc, n, x, e', H', h, hq⟩ | ⟨hc, n, x, e', H', h, hq⟩)
    · exact ⟨n, x, e', H', by simp only [ax, hc]; exact h, hq⟩
    · exact ⟨n, x, e', H', by simp only [ax, hc]; exact h, hq⟩

def InBlock (id : Nat) (Q : AExit → Env → Heap → Prop) : AExit → Env → Heap → Prop := fun x e H => Q (if x = .exit id then .normal else x) e H
theorem InBlock_normal {id : Nat} : InBlock id Q .normal e H = Q .normal e H := by simp [InBlock]
theorem InBlock_ret {id : Nat} : InBlock id Q .ret e H = Q .ret e H := by simp [InBlock]
theorem InBlock_self {id : Nat} : InBlock id Q (.exit id) e H = Q .normal e H := by simp [InBlock]
theorem InBlock_exit {id j : Nat} : InBlock id Q (.exit j) e H = if j = id then Q .normal e H else Q (.exit j) e H := by
  by_cases h : j = id <;> simp [InBlock, h]
theorem AW_block {id : Nat} {a : ACode} : AW tbl (.block id a) e H Q = AW tbl a e H (InBlock id Q) := by
  apply propext; constructor
  · rintro ⟨n, x, e', H', h, hq⟩
    simp only [ax, Option.map_eq_some_iff] at h
    obtain ⟨⟨x1, e1, H1⟩, h1, he⟩ := h
    simp only [Prod.mk.injEq] at he
    obtain ⟨rfl, rfl, rfl⟩ := he
    exact ⟨n, x1, e1, H1, h1, hq⟩
  · rintro ⟨n, x, e', H', h, hq⟩
    exact ⟨n, _, e', H', by simp only [ax, Option.map_eq_some_iff]; exact ⟨_, h, rfl⟩, hq⟩

/-- One round of a loop. -/
theorem AW_loop {a : ACode} : AW tbl (.loop a) e H Q = AW tbl a e H (Then (fun e H => AW tbl (.loop a) e H Q) Q) := by
  apply propext; constructor
  · rintro ⟨n, x, e', H', h, hq⟩
    simp only [ax] at h
    cases n with
    | zero => simp [iter] at h
    | succ n =>
      simp only [iter, Option.bind_eq_some_iff] at h
      obtain ⟨⟨x1, e1, H1⟩, h1, h⟩ := h
      refine ⟨n + 1, x1, e1, H1, h1, ?_⟩
      cases x1 with
      | normal => exact ⟨n + 1, x, e', H', by simp only [ax]; exact iter_mono (fun _ _ _ h => h) (by omega) h, hq⟩
      | ret => simp only [Option.some.injEq, Prod.mk.injEq] at h; obtain ⟨rfl, rfl, rfl⟩ := h; exact hq
      | exit i => simp only [Option.some.injEq, Prod.mk.injEq] at h; obtain ⟨rfl, rfl, rfl⟩ := h; exact hq
  · rintro ⟨n, x1, e1, H1, h1, hq⟩
    cases x1 with
    | normal =>
      obtain ⟨m, x, e', H', h, hq⟩ := hq
      refine ⟨max n m + 1, x, e', H', ?_, hq⟩
      simp only [ax, iter, Option.bind_eq_some_iff] at h ⊢
      exact ⟨_, ax_mono (Le.refl _) (by omega) h1, iter_mono (fun _ _ _ h => ax_mono (Le.refl _) (by omega) h) (by omega) h⟩
    | ret => exact ⟨n + 1, _, _, _, by simp only [ax, iter, Option.bind_eq_some_iff]; exact ⟨_, ax_mono (Le.refl _) (by omega) h1, rfl⟩, hq⟩
    | exit i => exact ⟨n + 1, _, _, _, by simp only [ax, iter, Option.bind_eq_some_iff]; exact ⟨_, ax_mono (Le.refl _) (by omega) h1, rfl⟩, hq⟩

theorem AW_reg {ops : List AOper} {live : List Nat} : AW tbl (.reg ops live) e H Q = AO tbl ops e H (fun e H => Q .normal (keep e live) H) := by
  apply propext; constructor
  · rintro ⟨n, x, e', H', h, hq⟩
    simp only [ax, Option.map_eq_some_iff] at h
    obtain ⟨⟨e1, H1⟩, h1, he⟩ := h
    simp only [Prod.mk.injEq] at he
    obtain ⟨rfl, rfl, rfl⟩ := he
    exact ⟨e1, H1, h1, hq⟩
  · rintro ⟨e', H', h, hq⟩
    exact ⟨0, _, _, _, by simp only [ax, Option.map_eq_some_iff]; exact ⟨_, h, rfl⟩, hq⟩
theorem AW_regd {ops : List DOper} {live : List Nat} : AW tbl (.regd ops live) e H Q = AOD tbl ops [] e H (fun e H => Q .normal (keep e live) H) := by
  apply propext; constructor
  · rintro ⟨n, x, e', H', h, hq⟩
    simp only [ax, Option.map_eq_some_iff] at h
    obtain ⟨⟨e1, H1⟩, h1, he⟩ := h
    simp only [Prod.mk.injEq] at he
    obtain ⟨rfl, rfl, rfl⟩ := he
    exact ⟨e1, H1, h1, hq⟩
  · rintro ⟨e', H', h, hq⟩
    exact ⟨0, _, _, _, by simp only [ax, Option.map_eq_some_iff]; exact ⟨_, h, rfl⟩, hq⟩

variable {R : Env → Heap → Prop}
theorem AO_nil : AO tbl [] e H R = R e H := by
  apply propext; constructor
  · rintro ⟨e', H', h, hq⟩
    simp only [aops, Option.some.injEq, Prod.mk.injEq] at h
    obtain ⟨rfl, rfl⟩ := h; exact hq
  · intro h; exact ⟨e, H, rfl, h⟩
/-- An operation's value, and what holds with it. -/
def Op1 (r : Option (Value × Heap)) (K : Value → Heap → Prop) : Prop := ∃ v H', r = some (v, H') ∧ K v H'
theorem Op1_some {v : Value} {H' : Heap} {K : Value → Heap → Prop} : Op1 (some (v, H')) K = K v H' := by
  apply propext; constructor
  · rintro ⟨v1, H1, h, hk⟩; injection h with h; injection h with h1 h2; subst h1; subst h2; exact hk
  · intro h; exact ⟨v, H', rfl, h⟩
theorem AO_op {d : Option Nat} {op : AOp} {r : List AOper} : AO tbl (⟨d, none, op⟩ :: r) e H R = Op1 (dval (AC tbl) op e H) (fun v H' => AO tbl r (putE e d v) H' R) := by
  apply propext; constructor
  · rintro ⟨e', H', h, hq⟩
    simp only [aops, step, want, does, Option.bind_eq_some_iff, Option.map_eq_some_iff] at h
    obtain ⟨⟨e1, H1⟩, ⟨⟨v, H2⟩, hv, he⟩, h⟩ := h
    simp only [Prod.mk.injEq] at he
    obtain ⟨rfl, rfl⟩ := he
    exact ⟨v, H2, hv, e', H', h, hq⟩
  · rintro ⟨v, H2, hv, e', H', h, hq⟩
    exact ⟨e', H', by simp only [aops, step, want, does, Option.bind_eq_some_iff, Option.map_eq_some_iff]; exact ⟨_, ⟨_, hv, rfl⟩, h⟩, hq⟩
theorem AO_guard {d : Option Nat} {t : Nat} {b c : Bool} {op : AOp} {r : List AOper} (hl : lk e t = some (.bool c)) :
    AO tbl (⟨d, some (t, b), op⟩ :: r) e H R = if c = b then AO tbl (⟨d, none, op⟩ :: r) e H R else AO tbl r (putE e d undef) H R := by
  by_cases h : c = b
  · rw [if_pos h]
    subst h
    unfold AO
    simp only [aops, step, want, hl, beq_self_eq_true, does]
  · rw [if_neg h]
    have : (c == b) = false := by simpa using h
    unfold AO
    simp only [aops, step, want, hl, this, Option.bind_some]
theorem AOD_nil {hist : List Heap} : AOD tbl [] hist e H R = R e H := by
  apply propext; constructor
  · rintro ⟨e', H', h, hq⟩
    simp only [aopsD, Option.some.injEq, Prod.mk.injEq] at h
    obtain ⟨rfl, rfl⟩ := h; exact hq
  · intro h; exact ⟨e, H, rfl, h⟩
theorem AOD_op {d : Option Nat} {op : AOp} {eff : Bool} {back : Nat} {r : List DOper} {hist : List Heap} : AOD tbl (⟨⟨d, none, op⟩, eff, back⟩ :: r) hist e H R =
    Op1 (dval (AC tbl) op e H) (fun v H' => okBack ⟨⟨d, none, op⟩, eff, back⟩ hist e H = true ∧ AOD tbl r (if eff then H :: hist else hist) (putE e d v) H' R) := by
  apply propext; constructor
  · rintro ⟨e', H', h, hq⟩
    simp only [aopsD, step, want, does, Option.bind_eq_some_iff, Option.map_eq_some_iff] at h
    obtain ⟨⟨e1, H1⟩, ⟨⟨v, H2⟩, hv, he⟩, h⟩ := h
    simp only [Prod.mk.injEq] at he
    obtain ⟨rfl, rfl⟩ := he
    split at h
    · rename_i hb; exact ⟨v, H2, hv, hb, e', H', h, hq⟩
    · simp at h
  · rintro ⟨v, H2, hv, hb, e', H', h, hq⟩
    exact ⟨e', H', by simp only [aopsD, step, want, does, Option.bind_eq_some_iff, Option.map_eq_some_iff]; exact ⟨_, ⟨_, hv, rfl⟩, by rw [if_pos hb]; exact h⟩, hq⟩
theorem AOD_guard {d : Option Nat} {t : Nat} {b c : Bool} {op : AOp} {eff : Bool} {back : Nat} {r : List DOper} {hist : List Heap} (hl : lk e t = some (.bool c)) :
    AOD tbl (⟨⟨d, some (t, b), op⟩, eff, back⟩ :: r) hist e H R = if c = b then Op1 (dval (AC tbl) op e H) (fun v H' => okBack ⟨⟨d, none, op⟩, eff, back⟩ hist e H = true ∧ AOD tbl r (if eff then H :: hist else hist) (putE e d v) H' R)
      else AOD tbl r (if eff then H :: hist else hist) (putE e d undef) H R := by
  by_cases h : c = b
  · rw [if_pos h, ← AOD_op]
    subst h
    unfold AOD
    simp only [aopsD, step, want, hl, beq_self_eq_true, does, okBack]
    rfl
  · rw [if_neg h]
    have : (c == b) = false := by simpa using h
    unfold AOD
    simp only [aopsD, step, want, hl, this, Option.bind_some, okBack]
    simp

/-- A function that is reckoned in a memory of its own. -/
theorem AC_iso {f : Nat} {vs : List Value} {F : AFn} {v : Value} (hF : tbl f = some F) (hl : vs.length ≤ F.ntmps) (hi : F.iso = true) (hvs : vs.all (constV 9) = true) (hv : constV 9 v = true)
    (h : AC tbl f vs [] = some (v, [])) (H : Heap) : AC tbl f vs H = some (v, H) := by
  cases H with
  | nil => exact h
  | cons b H =>
    obtain ⟨n, hn⟩ := (AC_iff tbl).1 h
    refine (AC_iff tbl).2 ⟨n + 1, ?_⟩
    simp only [ac, Option.bind_eq_some_iff]
    refine ⟨F, hF, ?_⟩
    rw [if_pos hl, if_pos (by simp [hi, hvs])]
    simp only [Option.bind_eq_some_iff]
    exact ⟨_, hn, by simp [hv]⟩

/-- A function, out of its body. -/
theorem AC_of {f : Nat} {vs : List Value} {F : AFn} {r : Value × Heap} (hF : tbl f = some F) (hl : vs.length ≤ F.ntmps) (hi : F.iso = false ∨ H = [])
    (h : AW tbl F.body (argsE 0 vs) H fun x e' H' => (∀ i, x ≠ .exit i) ∧ ∃ rvs, ares e' H' F.results = some rvs ∧ fin F.trunc H.length (tup rvs) H' = r) : AC tbl f vs H = some r := by
  obtain ⟨n, x, e', H', hax, hx, rvs, hrvs, hfin⟩ := h
  obtain ⟨m, hm⟩ := ax_fin hax
  refine (AC_iff tbl).2 ⟨max n m + 1, ?_⟩
  simp only [ac, Option.bind_eq_some_iff]
  refine ⟨F, hF, ?_⟩
  rw [if_pos hl, if_neg (by rcases hi with hi | rfl <;> simp [*])]
  simp only [Option.bind_eq_some_iff]
  refine ⟨(x, e', H'), ax_mono (ac_mono tbl (Nat.le_max_right n m)) (Nat.le_max_left n m) hm, ?_⟩
  cases x with
  | exit i => exact absurd rfl (hx i)
  | normal => simp only [hrvs, Option.map_some, hfin]
  | ret => simp only [hrvs, Option.map_some, hfin]
end

end Go.Proofs.Ytlbhbjaimcinbaa.AI

/- The functions in the form that the interpreter reads: printed by program. -/
namespace Go.Proofs.Ytlbhbjaimcinbaa.AI
open Go

/-- Of a list of pairs, the second beside a first. -/
def find : List (Nat × List Nat) → Nat → List Nat
  | [], _ => []
  | (k, v) :: r, n => if k = n then v else find r n
def findO : List (Nat × List (Nat × Nat)) → Nat → List (Nat × Nat)
  | [], _ => []
  | (k, v) :: r, n => if k = n then v else findO r n
def look : List (Nat × AFn) → Nat → Option AFn
  | [], _ => none
  | (k, v) :: r, n => if k = n then some v else look r n
def num : List (Nat × Nat) → Nat → Nat
  | [], _ => 0
  | (k, v) :: r, n => if k = n then v else num r n

def Lit0 : ByteArray := ⟨#[0, 1, 2, 2, 3, 3, 3, 3, 4, 4, 4, 4, 4, 4, 4, 4, 5, 5, 5, 5, 5, 5, 5, 5, 5, 5, 5, 5, 5, 5, 5, 5, 6, 6, 6, 6, 6, 6, 6, 6, 6, 6, 6, 6, 6, 6, 6, 6, 6, 6, 6, 6, 6, 6, 6, 6, 6, 6, 6, 6, 6, 6, 6, 6, 7, 7, 7, 7, 7, 7, 7, 7, 7, 7, 7, 7, 7, 7, 7, 7, 7, 7, 7, 7, 7, 7, 7, 7, 7, 7, 7, 7, 7, 7, 7, 7, 7, 7, 7, 7, 7, 7, 7, 7, 7, 7, 7, 7, 7, 7, 7, 7, 7, 7, 7, 7, 7, 7, 7, 7, 7, 7, 7, 7, 7, 7, 7, 7, 8, 8, 8, 8, 8, 8, 8, 8, 8, 8, 8, 8, 8, 8, 8, 8, 8, 8, 8, 8, 8, 8, 8, 8, 8, 8, 8, 8, 8, 8, 8, 8, 8, 8, 8, 8, 8, 8, 8, 8, 8, 8, 8, 8, 8, 8, 8, 8, 8, 8, 8, 8, 8, 8, 8, 8, 8, 8, 8, 8, 8, 8, 8, 8, 8, 8, 8, 8, 8, 8, 8, 8, 8, 8, 8, 8, 8, 8, 8, 8, 8, 8, 8, 8, 8, 8, 8, 8, 8, 8, 8, 8, 8, 8, 8, 8, 8, 8, 8, 8, 8, 8, 8, 8, 8, 8, 8, 8, 8, 8, 8, 8, 8, 8, 8, 8, 8, 8, 8, 8, 8, 8, 8, 8, 8, 8, 8, 8]⟩
/-- hopmesh/hopmeshlaw02.BitioWrites -/
def F3 : AFn := ⟨63,
 (.seq (.reg [⟨(some 2), none, .mov (.c (.bool false))⟩] [0])
 (.seq (.seq (.reg [⟨(some 11), none, .call 11 []⟩,
  ⟨(some 12), none, .un .not (.t 11)⟩] [0, 12])
 (.cond (.t 12)
  (.seq (.reg [⟨(some 2), none, .mov (.c (.bool false))⟩] [2])
  .ret)
  .skip))
 (.seq (.seq (.reg [⟨(some 13), none, .mov (.t 0)⟩,
  ⟨(some 14), none, .call 12 [(.t 13)]⟩,
  ⟨(some 15), none, .un .not (.t 14)⟩] [0, 15])
 (.cond (.t 15)
  (.seq (.reg [⟨(some 2), none, .mov (.c (.bool true))⟩] [2])
  .ret)
  .skip))
 (.seq (.reg [⟨(some 16), none, .call 13 []⟩,
  ⟨(some 17), none, .call 14 []⟩,
  ⟨(some 3), none, .mov (.t 16)⟩,
  ⟨(some 4), none, .mov (.t 17)⟩] [0, 3, 4])
 (.seq (.seq (.reg [⟨(some 18), none, .mov (.t 3)⟩,
  ⟨(some 19), none, .eqp false (.t 18) (.c (.pointer none))⟩] [0, 3, 4, 19])
 (.cond (.t 19)
  (.seq (.reg [⟨(some 2), none, .mov (.c (.bool false))⟩] [2])
  .ret)
  .skip))
 (.seq (.seq (.reg [⟨(some 20), none, .mov (.t 0)⟩,
  ⟨(some 21), none, .lenL (.t 20)⟩,
  ⟨(some 22), none, .mov (.c (.int .i64 0))⟩] [3, 4, 20, 21, 22])
 (.block 0 (.loop (.seq (.reg [⟨(some 23), none, .bin .lss (.t 22) (.t 21)⟩] [3, 4, 20, 21, 22, 23])
   (.seq (.cond (.t 23)
    .skip
    (.exit 0))
   (.seq (.block 1 (.seq (.reg [⟨(some 24), none, .iaddrS 4 (.t 20) (.t 22)⟩,
     ⟨(some 25), none, .load (some 4) (.t 24)⟩,
     ⟨(some 6), none, .new [(.int .i64 0), (.int .i64 0), (.int .i64 0), (.string ⟨#[]⟩)]⟩,
     ⟨none, none, .store 4 (.t 6) (.t 25)⟩] [3, 4, 6, 20, 21, 22])
    (.seq (.reg [⟨(some 26), none, .mov (.t 3)⟩,
     ⟨(some 27), none, .load (some 4) (.t 6)⟩,
     ⟨(some 28), none, .call 15 [(.t 26), (.t 27)]⟩] [3, 4, 6, 20, 21, 22])
    (.seq (.reg [⟨(some 29), none, .mov (.t 4)⟩,
     ⟨(some 30), none, .load (some 4) (.t 6)⟩,
     ⟨(some 31), none, .call 16 [(.t 29), (.t 30)]⟩] [3, 4, 20, 21, 22])
    (.seq (.reg [⟨(some 33), none, .mov (.t 3)⟩,
     ⟨(some 34), none, .call 17 [(.t 33)]⟩,
     ⟨(some 32), none, .mov (.t 34)⟩,
     ⟨(some 35), none, .ext 0 (.t 32)⟩,
     ⟨(some 36), none, .ext 1 (.t 32)⟩,
     ⟨(some 7), none, .mov (.t 35)⟩,
     ⟨(some 8), none, .mov (.t 36)⟩] [3, 4, 7, 8, 20, 21, 22])
    (.seq (.reg [⟨(some 38), none, .mov (.t 4)⟩,
     ⟨(some 39), none, .call 18 [(.t 38)]⟩,
     ⟨(some 37), none, .mov (.t 39)⟩,
     ⟨(some 40), none, .ext 0 (.t 37)⟩,
     ⟨(some 41), none, .ext 1 (.t 37)⟩,
     ⟨(some 9), none, .mov (.t 40)⟩,
     ⟨(some 10), none, .mov (.t 41)⟩] [3, 4, 7, 8, 9, 10, 20, 21, 22])
    (.seq (.reg [⟨(some 42), none, .mov (.t 7)⟩,
     ⟨(some 43), none, .mov (.t 9)⟩,
     ⟨(some 44), none, .bin .neq (.t 42) (.t 43)⟩,
     ⟨(some 45), none, .mov (.t 44)⟩,
     ⟨(some 46), some (45, false), .mov (.t 8)⟩,
     ⟨(some 47), some (45, false), .mov (.t 10)⟩,
     ⟨(some 48), some (45, false), .bin .neq (.t 46) (.t 47)⟩,
     ⟨(some 49), none, .pick (.t 45) (.c (.bool true)) (.t 48)⟩,
     ⟨(some 50), none, .mov (.t 49)⟩,
     ⟨(some 51), some (50, false), .mov (.t 3)⟩,
     ⟨(some 52), some (50, false), .call 19 [(.t 51)]⟩,
     ⟨(some 53), some (50, false), .mov (.t 4)⟩,
     ⟨(some 54), some (50, false), .call 20 [(.t 53)]⟩,
     ⟨(some 55), some (50, false), .bin .neq (.t 52) (.t 54)⟩,
     ⟨(some 56), none, .pick (.t 50) (.c (.bool true)) (.t 55)⟩] [3, 4, 20, 21, 22, 56])
    (.cond (.t 56)
     (.seq (.reg [⟨(some 2), none, .mov (.c (.bool false))⟩] [2])
     .ret)
     .skip))))))))
   (.reg [⟨(some 57), none, .bin .add (.t 22) (.c (.int .i64 1))⟩,
    ⟨(some 22), none, .mov (.t 57)⟩] [3, 4, 20, 21, 22])))))))
 (.seq (.reg [⟨(some 58), none, .mov (.t 3)⟩,
  ⟨(some 59), none, .call 19 [(.t 58)]⟩,
  ⟨(some 60), none, .mov (.t 4)⟩,
  ⟨(some 61), none, .call 20 [(.t 60)]⟩,
  ⟨(some 62), none, .bin .eql (.t 59) (.t 61)⟩,
  ⟨(some 2), none, .mov (.t 62)⟩] [2])
 .ret))))))),
 [.tmp 2], false, false⟩

/-- hopmesh/hopmeshlaw02.BitioStrict -/
def F4 : AFn := ⟨59,
 (.seq (.reg [⟨(some 4), none, .mov (.c (.bool false))⟩] [0, 1])
 (.seq (.seq (.reg [⟨(some 12), none, .call 11 []⟩,
  ⟨(some 13), none, .un .not (.t 12)⟩] [0, 1, 13])
 (.cond (.t 13)
  (.seq (.reg [⟨(some 4), none, .mov (.c (.bool false))⟩] [4])
  .ret)
  .skip))
 (.seq (.seq (.reg [⟨(some 14), none, .mov (.t 0)⟩,
  ⟨(some 15), none, .lenS (.t 14)⟩,
  ⟨(some 16), none, .bin .gtr (.t 15) (.c (.int .i64 300))⟩,
  ⟨(some 17), none, .mov (.t 16)⟩,
  ⟨(some 18), some (17, false), .mov (.t 1)⟩,
  ⟨(some 19), some (17, false), .call 12 [(.t 18)]⟩,
  ⟨(some 20), some (17, false), .un .not (.t 19)⟩,
  ⟨(some 21), none, .pick (.t 17) (.c (.bool true)) (.t 20)⟩] [0, 1, 21])
 (.cond (.t 21)
  (.seq (.reg [⟨(some 4), none, .mov (.c (.bool true))⟩] [4])
  .ret)
  .skip))
 (.seq (.reg [⟨(some 22), none, .mov (.t 0)⟩,
  ⟨(some 23), none, .call 21 [(.t 22)]⟩,
  ⟨(some 24), none, .call 13 []⟩,
  ⟨(some 5), none, .mov (.t 23)⟩,
  ⟨(some 6), none, .mov (.t 24)⟩] [0, 1, 5, 6])
 (.seq (.seq (.reg [⟨(some 25), none, .mov (.t 5)⟩,
  ⟨(some 26), none, .eqp false (.t 25) (.c (.pointer none))⟩,
  ⟨(some 27), none, .mov (.t 26)⟩,
  ⟨(some 28), some (27, false), .mov (.t 6)⟩,
  ⟨(some 29), some (27, false), .eqp false (.t 28) (.c (.pointer none))⟩,
  ⟨(some 30), none, .pick (.t 27) (.c (.bool true)) (.t 29)⟩] [0, 1, 5, 6, 30])
 (.cond (.t 30)
  (.seq (.reg [⟨(some 4), none, .mov (.c (.bool false))⟩] [4])
  .ret)
  .skip))
 (.seq (.seq (.reg [⟨(some 31), none, .mov (.t 1)⟩,
  ⟨(some 32), none, .lenL (.t 31)⟩,
  ⟨(some 33), none, .mov (.c (.int .i64 0))⟩] [0, 5, 6, 31, 32, 33])
 (.block 0 (.loop (.seq (.reg [⟨(some 34), none, .bin .lss (.t 33) (.t 32)⟩] [0, 5, 6, 31, 32, 33, 34])
   (.seq (.cond (.t 34)
    .skip
    (.exit 0))
   (.seq (.block 1 (.seq (.reg [⟨(some 35), none, .iaddrS 4 (.t 31) (.t 33)⟩,
     ⟨(some 36), none, .load (some 4) (.t 35)⟩,
     ⟨(some 8), none, .new [(.int .i64 0), (.int .i64 0), (.int .i64 0), (.string ⟨#[]⟩)]⟩,
     ⟨none, none, .store 4 (.t 8) (.t 36)⟩] [0, 5, 6, 8, 31, 32, 33])
    (.seq (.reg [⟨(some 37), none, .mov (.t 5)⟩,
     ⟨(some 38), none, .load (some 4) (.t 8)⟩,
     ⟨(some 39), none, .call 22 [(.t 37), (.t 38)]⟩,
     ⟨(some 9), none, .new [(.int .i64 0), (.int .i64 0), (.int .i64 0), (.string ⟨#[]⟩)]⟩,
     ⟨none, none, .store 4 (.t 9) (.t 39)⟩] [0, 5, 6, 9, 31, 32, 33])
    (.reg [⟨(some 40), none, .mov (.t 6)⟩,
     ⟨(some 41), none, .load (some 4) (.t 9)⟩,
     ⟨(some 42), none, .call 15 [(.t 40), (.t 41)]⟩] [0, 5, 6, 31, 32, 33]))))
   (.reg [⟨(some 43), none, .bin .add (.t 33) (.c (.int .i64 1))⟩,
    ⟨(some 33), none, .mov (.t 43)⟩] [0, 5, 6, 31, 32, 33])))))))
 (.seq (.seq (.reg [⟨(some 44), none, .mov (.t 5)⟩,
  ⟨(some 45), none, .call 23 [(.t 44)]⟩,
  ⟨(some 46), none, .bin .neq (.t 45) (.c (.int .i64 0))⟩] [0, 6, 46])
 (.cond (.t 46)
  (.seq (.reg [⟨(some 4), none, .mov (.c (.bool true))⟩] [4])
  .ret)
  .skip))
 (.seq (.reg [⟨(some 48), none, .mov (.t 6)⟩,
  ⟨(some 49), none, .call 17 [(.t 48)]⟩,
  ⟨(some 47), none, .mov (.t 49)⟩,
  ⟨(some 50), none, .ext 0 (.t 47)⟩,
  ⟨(some 51), none, .ext 1 (.t 47)⟩,
  ⟨(some 10), none, .mov (.t 50)⟩,
  ⟨(some 11), none, .mov (.t 51)⟩] [0, 10, 11])
 (.seq (.reg [⟨(some 52), none, .mov (.t 11)⟩,
  ⟨(some 53), none, .bin .eql (.t 52) (.c (.int .i64 0))⟩,
  ⟨(some 54), none, .mov (.t 53)⟩,
  ⟨(some 55), some (54, true), .mov (.t 10)⟩,
  ⟨(some 56), some (54, true), .mov (.t 0)⟩,
  ⟨(some 57), some (54, true), .bin .eql (.t 55) (.t 56)⟩,
  ⟨(some 58), none, .pick (.t 54) (.t 57) (.c (.bool false))⟩,
  ⟨(some 4), none, .mov (.t 58)⟩] [4])
 .ret))))))))),
 [.tmp 4], false, false⟩

/-- hopmesh/hopmeshlaw02.BitioWidths -/
def F5 : AFn := ⟨70,
 (.seq (.reg [⟨(some 2), none, .mov (.c (.bool false))⟩] [0])
 (.seq (.seq (.reg [⟨(some 10), none, .call 11 []⟩,
  ⟨(some 11), none, .un .not (.t 10)⟩] [0, 11])
 (.cond (.t 11)
  (.seq (.reg [⟨(some 2), none, .mov (.c (.bool false))⟩] [2])
  .ret)
  .skip))
 (.seq (.reg [⟨(some 12), none, .mov (.t 0)⟩,
  ⟨(some 13), none, .call 24 [(.t 12)]⟩,
  ⟨(some 3), none, .mov (.t 13)⟩] [0, 3])
 (.seq (.seq (.reg [⟨(some 14), none, .mov (.t 0)⟩,
  ⟨(some 15), none, .bin .lss (.t 14) (.c (.int .i64 0))⟩] [0, 3, 15])
 (.cond (.t 15)
  (.seq (.reg [⟨(some 16), none, .mov (.t 3)⟩,
   ⟨(some 17), none, .bin .eql (.t 16) (.c (.int .i64 0))⟩,
   ⟨(some 2), none, .mov (.t 17)⟩] [2])
  .ret)
  .skip))
 (.seq (.seq (.reg [⟨(some 18), none, .mov (.t 3)⟩,
  ⟨(some 19), none, .bin .lss (.t 18) (.c (.int .i64 1))⟩,
  ⟨(some 20), none, .mov (.t 19)⟩,
  ⟨(some 21), some (20, false), .mov (.t 3)⟩,
  ⟨(some 22), some (20, false), .bin .gtr (.t 21) (.c (.int .i64 63))⟩,
  ⟨(some 23), none, .pick (.t 20) (.c (.bool true)) (.t 22)⟩] [0, 3, 23])
 (.cond (.t 23)
  (.seq (.reg [⟨(some 2), none, .mov (.c (.bool false))⟩] [2])
  .ret)
  .skip))
 (.seq (.reg [⟨(some 24), none, .call 13 []⟩,
  ⟨(some 25), none, .call 13 []⟩,
  ⟨(some 4), none, .mov (.t 24)⟩,
  ⟨(some 5), none, .mov (.t 25)⟩] [0, 3, 4, 5])
 (.seq (.seq (.reg [⟨(some 26), none, .mov (.t 4)⟩,
  ⟨(some 27), none, .eqp false (.t 26) (.c (.pointer none))⟩,
  ⟨(some 28), none, .mov (.t 27)⟩,
  ⟨(some 29), some (28, false), .mov (.t 5)⟩,
  ⟨(some 30), some (28, false), .eqp false (.t 29) (.c (.pointer none))⟩,
  ⟨(some 31), none, .pick (.t 28) (.c (.bool true)) (.t 30)⟩] [0, 3, 4, 5, 31])
 (.cond (.t 31)
  (.seq (.reg [⟨(some 2), none, .mov (.c (.bool false))⟩] [2])
  .ret)
  .skip))
 (.seq (.reg [⟨(some 32), none, .mov (.t 4)⟩,
  ⟨(some 33), none, .mov (.t 3)⟩,
  ⟨(some 34), none, .mov (.t 0)⟩,
  ⟨(some 35), none, .call 25 [(.t 32), (.t 33), (.t 34)]⟩] [0, 3, 4, 5])
 (.seq (.seq (.reg [⟨(some 37), none, .mov (.t 4)⟩,
  ⟨(some 38), none, .call 17 [(.t 37)]⟩,
  ⟨(some 36), none, .mov (.t 38)⟩,
  ⟨(some 39), none, .ext 0 (.t 36)⟩,
  ⟨(some 40), none, .ext 1 (.t 36)⟩,
  ⟨(some 6), none, .mov (.t 39)⟩,
  ⟨(some 7), none, .mov (.t 40)⟩] [0, 3, 4, 5, 7])
 (.seq (.reg [⟨(some 41), none, .mov (.t 7)⟩,
  ⟨(some 42), none, .bin .neq (.t 41) (.c (.int .i64 0))⟩,
  ⟨(some 43), none, .mov (.t 42)⟩,
  ⟨(some 44), some (43, false), .mov (.t 4)⟩,
  ⟨(some 45), some (43, false), .call 19 [(.t 44)]⟩,
  ⟨(some 46), some (43, false), .mov (.t 3)⟩,
  ⟨(some 47), some (43, false), .bin .neq (.t 45) (.t 46)⟩,
  ⟨(some 48), none, .pick (.t 43) (.c (.bool true)) (.t 47)⟩] [0, 3, 5, 48])
 (.cond (.t 48)
  (.seq (.reg [⟨(some 2), none, .mov (.c (.bool false))⟩] [2])
  .ret)
  .skip)))
 (.seq (.seq (.reg [⟨(some 49), none, .mov (.t 3)⟩,
  ⟨(some 50), none, .bin .eql (.t 49) (.c (.int .i64 1))⟩] [0, 3, 5, 50])
 (.cond (.t 50)
  (.seq (.reg [⟨(some 51), none, .mov (.t 0)⟩,
   ⟨(some 52), none, .bin .leq (.t 51) (.c (.int .i64 1))⟩,
   ⟨(some 2), none, .mov (.t 52)⟩] [2])
  .ret)
  .skip))
 (.seq (.reg [⟨(some 53), none, .mov (.t 5)⟩,
  ⟨(some 54), none, .mov (.t 3)⟩,
  ⟨(some 55), none, .bin .sub (.t 54) (.c (.int .i64 1))⟩,
  ⟨(some 56), none, .mov (.t 0)⟩,
  ⟨(some 57), none, .call 25 [(.t 53), (.t 55), (.t 56)]⟩] [5])
 (.seq (.reg [⟨(some 59), none, .mov (.t 5)⟩,
  ⟨(some 60), none, .call 17 [(.t 59)]⟩,
  ⟨(some 58), none, .mov (.t 60)⟩,
  ⟨(some 61), none, .ext 0 (.t 58)⟩,
  ⟨(some 62), none, .ext 1 (.t 58)⟩,
  ⟨(some 8), none, .mov (.t 61)⟩,
  ⟨(some 9), none, .mov (.t 62)⟩] [5, 9])
 (.seq (.reg [⟨(some 63), none, .mov (.t 9)⟩,
  ⟨(some 64), none, .bin .eql (.t 63) (.c (.int .i64 2))⟩,
  ⟨(some 65), none, .mov (.t 64)⟩,
  ⟨(some 66), some (65, true), .mov (.t 5)⟩,
  ⟨(some 67), some (65, true), .call 19 [(.t 66)]⟩,
  ⟨(some 68), some (65, true), .bin .eql (.t 67) (.c (.int .i64 0))⟩,
  ⟨(some 69), none, .pick (.t 65) (.t 68) (.c (.bool false))⟩,
  ⟨(some 2), none, .mov (.t 69)⟩] [2])
 .ret))))))))))))),
 [.tmp 2], false, false⟩

/-- hopmesh/hopmeshlaw02.BitioSigned -/
def F6 : AFn := ⟨96,
 (.seq (.reg [⟨(some 4), none, .mov (.c (.bool false))⟩] [0, 1])
 (.seq (.seq (.reg [⟨(some 14), none, .call 11 []⟩,
  ⟨(some 15), none, .un .not (.t 14)⟩] [0, 1, 15])
 (.cond (.t 15)
  (.seq (.reg [⟨(some 4), none, .mov (.c (.bool false))⟩] [4])
  .ret)
  .skip))
 (.seq (.reg [⟨(some 16), none, .mov (.t 0)⟩,
  ⟨(some 17), none, .cvI .i64 (.t 16)⟩,
  ⟨(some 18), none, .bin .rem (.t 17) (.c (.int .i64 61))⟩,
  ⟨(some 19), none, .bin .add (.c (.int .i64 2)) (.t 18)⟩,
  ⟨(some 5), none, .mov (.t 19)⟩] [1, 5])
 (.seq (.reg [⟨(some 20), none, .call 13 []⟩,
  ⟨(some 21), none, .call 13 []⟩,
  ⟨(some 6), none, .mov (.t 20)⟩,
  ⟨(some 7), none, .mov (.t 21)⟩] [1, 5, 6, 7])
 (.seq (.seq (.reg [⟨(some 22), none, .mov (.t 6)⟩,
  ⟨(some 23), none, .eqp false (.t 22) (.c (.pointer none))⟩,
  ⟨(some 24), none, .mov (.t 23)⟩,
  ⟨(some 25), some (24, false), .mov (.t 7)⟩,
  ⟨(some 26), some (24, false), .eqp false (.t 25) (.c (.pointer none))⟩,
  ⟨(some 27), none, .pick (.t 24) (.c (.bool true)) (.t 26)⟩] [1, 5, 6, 7, 27])
 (.cond (.t 27)
  (.seq (.reg [⟨(some 4), none, .mov (.c (.bool false))⟩] [4])
  .ret)
  .skip))
 (.seq (.reg [⟨(some 28), none, .mov (.t 6)⟩,
  ⟨(some 29), none, .mov (.t 5)⟩,
  ⟨(some 30), none, .mov (.t 1)⟩,
  ⟨(some 31), none, .call 26 [(.t 28), (.t 29), (.t 30)]⟩] [1, 5, 6, 7])
 (.seq (.reg [⟨(some 33), none, .mov (.t 6)⟩,
  ⟨(some 34), none, .call 17 [(.t 33)]⟩,
  ⟨(some 32), none, .mov (.t 34)⟩,
  ⟨(some 35), none, .ext 0 (.t 32)⟩,
  ⟨(some 36), none, .ext 1 (.t 32)⟩,
  ⟨(some 8), none, .mov (.t 35)⟩,
  ⟨(some 9), none, .mov (.t 36)⟩] [1, 5, 7, 8, 9])
 (.seq (.seq (.reg [⟨(some 37), none, .mov (.t 1)⟩,
  ⟨(some 38), none, .mov (.t 5)⟩,
  ⟨(some 39), none, .bin .sub (.t 38) (.c (.int .i64 1))⟩,
  ⟨(some 40), none, .bin .shl (.c (.int .i64 1)) (.t 39)⟩,
  ⟨(some 41), none, .un .neg (.t 40)⟩,
  ⟨(some 42), none, .bin .lss (.t 37) (.t 41)⟩,
  ⟨(some 43), none, .mov (.t 42)⟩,
  ⟨(some 44), some (43, false), .mov (.t 1)⟩,
  ⟨(some 45), some (43, false), .mov (.t 5)⟩,
  ⟨(some 46), some (43, false), .bin .sub (.t 45) (.c (.int .i64 1))⟩,
  ⟨(some 47), some (43, false), .bin .shl (.c (.int .i64 1)) (.t 46)⟩,
  ⟨(some 48), some (43, false), .bin .geq (.t 44) (.t 47)⟩,
  ⟨(some 49), none, .pick (.t 43) (.c (.bool true)) (.t 48)⟩] [1, 5, 7, 8, 9, 49])
 (.cond (.t 49)
  (.seq (.reg [⟨(some 50), none, .mov (.t 9)⟩,
   ⟨(some 51), none, .bin .eql (.t 50) (.c (.int .i64 2))⟩,
   ⟨(some 52), none, .mov (.t 51)⟩,
   ⟨(some 53), some (52, true), .mov (.t 8)⟩,
   ⟨(some 54), some (52, true), .bin .eql (.t 53) (.c (.string ⟨#[]⟩))⟩,
   ⟨(some 55), none, .pick (.t 52) (.t 54) (.c (.bool false))⟩,
   ⟨(some 4), none, .mov (.t 55)⟩] [4])
  .ret)
  .skip))
 (.seq (.reg [⟨(some 56), none, .mov (.t 1)⟩,
  ⟨(some 10), none, .mov (.t 56)⟩] [1, 5, 7, 8, 9, 10])
 (.seq (.seq (.reg [⟨(some 57), none, .mov (.t 1)⟩,
  ⟨(some 58), none, .bin .lss (.t 57) (.c (.int .i64 0))⟩] [1, 5, 7, 8, 9, 10, 58])
 (.cond (.t 58)
  (.reg [⟨(some 59), none, .mov (.t 1)⟩,
   ⟨(some 60), none, .mov (.t 5)⟩,
   ⟨(some 61), none, .bin .shl (.c (.int .i64 1)) (.t 60)⟩,
   ⟨(some 62), none, .bin .add (.t 59) (.t 61)⟩,
   ⟨(some 10), none, .mov (.t 62)⟩] [1, 5, 7, 8, 9, 10])
  .skip))
 (.seq (.reg [⟨(some 63), none, .mov (.t 7)⟩,
  ⟨(some 64), none, .mov (.t 5)⟩,
  ⟨(some 65), none, .mov (.t 10)⟩,
  ⟨(some 66), none, .call 25 [(.t 63), (.t 64), (.t 65)]⟩] [1, 5, 7, 8, 9])
 (.seq (.reg [⟨(some 68), none, .mov (.t 7)⟩,
  ⟨(some 69), none, .call 17 [(.t 68)]⟩,
  ⟨(some 67), none, .mov (.t 69)⟩,
  ⟨(some 70), none, .ext 0 (.t 67)⟩,
  ⟨(some 71), none, .ext 1 (.t 67)⟩,
  ⟨(some 11), none, .mov (.t 70)⟩,
  ⟨(some 12), none, .mov (.t 71)⟩] [1, 5, 8, 9, 11, 12])
 (.seq (.reg [⟨(some 72), none, .mov (.t 8)⟩,
  ⟨(some 73), none, .call 21 [(.t 72)]⟩,
  ⟨(some 13), none, .mov (.t 73)⟩] [1, 5, 8, 9, 11, 12, 13])
 (.seq (.reg [⟨(some 74), none, .mov (.t 9)⟩,
  ⟨(some 75), none, .bin .eql (.t 74) (.c (.int .i64 0))⟩,
  ⟨(some 76), none, .mov (.t 75)⟩,
  ⟨(some 77), some (76, true), .mov (.t 12)⟩,
  ⟨(some 78), some (76, true), .bin .eql (.t 77) (.c (.int .i64 0))⟩,
  ⟨(some 79), none, .pick (.t 76) (.t 78) (.c (.bool false))⟩,
  ⟨(some 80), none, .mov (.t 79)⟩,
  ⟨(some 81), some (80, true), .mov (.t 8)⟩,
  ⟨(some 82), some (80, true), .mov (.t 11)⟩,
  ⟨(some 83), some (80, true), .bin .eql (.t 81) (.t 82)⟩,
  ⟨(some 84), none, .pick (.t 80) (.t 83) (.c (.bool false))⟩,
  ⟨(some 85), none, .mov (.t 84)⟩,
  ⟨(some 86), some (85, true), .mov (.t 13)⟩,
  ⟨(some 87), some (85, true), .eqp true (.t 86) (.c (.pointer none))⟩,
  ⟨(some 88), none, .pick (.t 85) (.t 87) (.c (.bool false))⟩,
  ⟨(some 89), none, .mov (.t 88)⟩,
  ⟨(some 90), some (89, true), .mov (.t 13)⟩,
  ⟨(some 91), some (89, true), .mov (.t 5)⟩,
  ⟨(some 92), some (89, true), .call 27 [(.t 90), (.t 91)]⟩,
  ⟨(some 93), some (89, true), .mov (.t 1)⟩,
  ⟨(some 94), some (89, true), .bin .eql (.t 92) (.t 93)⟩,
  ⟨(some 95), none, .pick (.t 89) (.t 94) (.c (.bool false))⟩,
  ⟨(some 4), none, .mov (.t 95)⟩] [4])
 .ret)))))))))))))),
 [.tmp 4], false, false⟩

/-- hopmesh/hopmeshlaw02.BitioReads -/
def F7 : AFn := ⟨108,
 (.seq (.reg [⟨(some 4), none, .mov (.c (.bool false))⟩] [0, 1])
 (.seq (.seq (.reg [⟨(some 11), none, .call 11 []⟩,
  ⟨(some 12), none, .un .not (.t 11)⟩] [0, 1, 12])
 (.cond (.t 12)
  (.seq (.reg [⟨(some 4), none, .mov (.c (.bool false))⟩] [4])
  .ret)
  .skip))
 (.seq (.seq (.reg [⟨(some 13), none, .mov (.t 0)⟩,
  ⟨(some 14), none, .lenS (.t 13)⟩,
  ⟨(some 15), none, .bin .gtr (.t 14) (.c (.int .i64 300))⟩,
  ⟨(some 16), none, .mov (.t 15)⟩,
  ⟨(some 17), some (16, false), .mov (.t 1)⟩,
  ⟨(some 18), some (16, false), .call 12 [(.t 17)]⟩,
  ⟨(some 19), some (16, false), .un .not (.t 18)⟩,
  ⟨(some 20), none, .pick (.t 16) (.c (.bool true)) (.t 19)⟩] [0, 1, 20])
 (.cond (.t 20)
  (.seq (.reg [⟨(some 4), none, .mov (.c (.bool true))⟩] [4])
  .ret)
  .skip))
 (.seq (.reg [⟨(some 21), none, .mov (.t 0)⟩,
  ⟨(some 22), none, .call 21 [(.t 21)]⟩,
  ⟨(some 23), none, .mov (.t 0)⟩,
  ⟨(some 24), none, .call 28 [(.t 23)]⟩,
  ⟨(some 5), none, .mov (.t 22)⟩,
  ⟨(some 6), none, .mov (.t 24)⟩] [1, 5, 6])
 (.seq (.seq (.reg [⟨(some 25), none, .mov (.t 5)⟩,
  ⟨(some 26), none, .eqp false (.t 25) (.c (.pointer none))⟩] [1, 5, 6, 26])
 (.cond (.t 26)
  (.seq (.reg [⟨(some 4), none, .mov (.c (.bool false))⟩] [4])
  .ret)
  .skip))
 (.seq (.seq (.reg [⟨(some 27), none, .mov (.t 1)⟩,
  ⟨(some 28), none, .lenL (.t 27)⟩,
  ⟨(some 29), none, .mov (.c (.int .i64 0))⟩] [5, 6, 27, 28, 29])
 (.block 0 (.loop (.seq (.reg [⟨(some 30), none, .bin .lss (.t 29) (.t 28)⟩] [5, 6, 27, 28, 29, 30])
   (.seq (.cond (.t 30)
    .skip
    (.exit 0))
   (.seq (.block 1 (.seq (.reg [⟨(some 31), none, .iaddrS 4 (.t 27) (.t 29)⟩,
     ⟨(some 32), none, .load (some 4) (.t 31)⟩,
     ⟨(some 8), none, .new [(.int .i64 0), (.int .i64 0), (.int .i64 0), (.string ⟨#[]⟩)]⟩,
     ⟨none, none, .store 4 (.t 8) (.t 32)⟩] [5, 6, 8, 27, 28, 29])
    (.seq (.reg [⟨(some 33), none, .mov (.t 5)⟩,
     ⟨(some 34), none, .load (some 4) (.t 8)⟩,
     ⟨(some 35), none, .call 22 [(.t 33), (.t 34)]⟩,
     ⟨(some 9), none, .new [(.int .i64 0), (.int .i64 0), (.int .i64 0), (.string ⟨#[]⟩)]⟩,
     ⟨none, none, .store 4 (.t 9) (.t 35)⟩] [5, 6, 8, 9, 27, 28, 29])
    (.seq (.reg [⟨(some 36), none, .load (some 4) (.t 8)⟩,
     ⟨(some 10), none, .new [(.int .i64 0), (.int .i64 0), (.int .i64 0), (.string ⟨#[]⟩)]⟩,
     ⟨none, none, .store 4 (.t 10) (.t 36)⟩] [5, 6, 8, 9, 10, 27, 28, 29])
    (.seq (.seq (.reg [⟨(some 37), none, .faddr 0 (.t 8)⟩,
     ⟨(some 38), none, .load none (.t 37)⟩] [5, 6, 8, 9, 10, 27, 28, 29, 38])
    (.block 2 (.seq (.reg [⟨(some 40), none, .bin .eql (.t 38) (.c (.int .i64 0))⟩,
      ⟨(some 39), none, .mov (.t 40)⟩] [5, 6, 8, 9, 10, 27, 28, 29, 38, 39])
     (.cond (.t 39)
      (.reg [⟨(some 41), none, .mov (.t 6)⟩,
       ⟨(some 42), none, .faddr 1 (.t 8)⟩,
       ⟨(some 43), none, .load none (.t 42)⟩,
       ⟨(some 44), none, .call 29 [(.t 41), (.t 43)]⟩,
       ⟨(some 45), none, .faddr 2 (.t 10)⟩,
       ⟨none, none, .store 1 (.t 45) (.t 44)⟩,
       ⟨(some 46), none, .faddr 3 (.t 10)⟩,
       ⟨none, none, .store 1 (.t 46) (.c (.string ⟨#[]⟩))⟩] [5, 6, 9, 10, 27, 28, 29])
      (.seq (.reg [⟨(some 48), none, .bin .eql (.t 38) (.c (.int .i64 1))⟩,
       ⟨(some 47), none, .mov (.t 48)⟩] [5, 6, 8, 9, 10, 27, 28, 29, 38, 47])
      (.cond (.t 47)
       (.reg [⟨(some 49), none, .mov (.t 6)⟩,
        ⟨(some 50), none, .faddr 1 (.t 8)⟩,
        ⟨(some 51), none, .load none (.t 50)⟩,
        ⟨(some 52), none, .call 30 [(.t 49), (.t 51)]⟩,
        ⟨(some 53), none, .faddr 2 (.t 10)⟩,
        ⟨none, none, .store 1 (.t 53) (.t 52)⟩,
        ⟨(some 54), none, .faddr 3 (.t 10)⟩,
        ⟨none, none, .store 1 (.t 54) (.c (.string ⟨#[]⟩))⟩] [5, 6, 9, 10, 27, 28, 29])
       (.seq (.reg [⟨(some 56), none, .bin .eql (.t 38) (.c (.int .i64 2))⟩,
        ⟨(some 55), none, .mov (.t 56)⟩] [5, 6, 8, 9, 10, 27, 28, 29, 38, 55])
       (.cond (.t 55)
        (.seq (.reg [⟨(some 57), none, .faddr 2 (.t 10)⟩,
         ⟨none, none, .store 1 (.t 57) (.c (.int .i64 0))⟩,
         ⟨(some 58), none, .faddr 3 (.t 10)⟩,
         ⟨none, none, .store 1 (.t 58) (.c (.string ⟨#[]⟩))⟩,
         ⟨(some 59), none, .faddr 1 (.t 10)⟩,
         ⟨none, none, .store 1 (.t 59) (.c (.int .i64 0))⟩] [5, 6, 9, 10, 27, 28, 29])
        (.seq (.reg [⟨(some 60), none, .mov (.t 6)⟩,
         ⟨(some 61), none, .call 31 [(.t 60)]⟩] [5, 6, 9, 10, 27, 28, 29, 61])
        (.cond (.t 61)
         (.reg [⟨(some 62), none, .faddr 2 (.t 10)⟩,
          ⟨none, none, .store 1 (.t 62) (.c (.int .i64 1))⟩] [5, 6, 9, 10, 27, 28, 29])
         .skip)))
        (.seq (.reg [⟨(some 64), none, .bin .eql (.t 38) (.c (.int .i64 3))⟩,
         ⟨(some 63), none, .mov (.t 64)⟩] [5, 6, 8, 9, 10, 27, 28, 29, 63])
        (.cond (.t 63)
         (.reg [⟨(some 65), none, .mov (.t 6)⟩,
          ⟨(some 66), none, .faddr 1 (.t 8)⟩,
          ⟨(some 67), none, .load none (.t 66)⟩,
          ⟨(some 68), none, .call 32 [(.t 65), (.t 67)]⟩,
          ⟨(some 69), none, .faddr 2 (.t 10)⟩,
          ⟨none, none, .store 1 (.t 69) (.c (.int .i64 0))⟩,
          ⟨(some 70), none, .faddr 3 (.t 10)⟩,
          ⟨none, none, .store 1 (.t 70) (.t 68)⟩] [5, 6, 9, 10, 27, 28, 29])
         .skip))))))))))
    (.seq (.reg [⟨(some 71), none, .load (some 4) (.t 9)⟩,
     ⟨(some 72), none, .load (some 4) (.t 10)⟩,
     ⟨(some 73), none, .eqs true [.int, .int, .int, .str] (.t 71) (.t 72)⟩,
     ⟨(some 74), none, .mov (.t 73)⟩,
     ⟨(some 75), some (74, false), .mov (.t 5)⟩,
     ⟨(some 76), some (74, false), .call 33 [(.t 75)]⟩,
     ⟨(some 77), some (74, false), .mov (.t 6)⟩,
     ⟨(some 78), some (74, false), .call 34 [(.t 77)]⟩,
     ⟨(some 79), some (74, false), .bin .neq (.t 76) (.t 78)⟩,
     ⟨(some 80), none, .pick (.t 74) (.c (.bool true)) (.t 79)⟩,
     ⟨(some 81), none, .mov (.t 80)⟩,
     ⟨(some 82), some (81, false), .mov (.t 5)⟩,
     ⟨(some 83), some (81, false), .call 35 [(.t 82)]⟩,
     ⟨(some 84), some (81, false), .mov (.t 6)⟩,
     ⟨(some 85), some (81, false), .call 36 [(.t 84)]⟩,
     ⟨(some 86), some (81, false), .bin .neq (.t 83) (.t 85)⟩,
     ⟨(some 87), none, .pick (.t 81) (.c (.bool true)) (.t 86)⟩,
     ⟨(some 88), none, .mov (.t 87)⟩,
     ⟨(some 89), some (88, false), .mov (.t 5)⟩,
     ⟨(some 90), some (88, false), .call 23 [(.t 89)]⟩,
     ⟨(some 91), some (88, false), .mov (.t 6)⟩,
     ⟨(some 92), some (88, false), .call 37 [(.t 91)]⟩,
     ⟨(some 93), some (88, false), .bin .neq (.t 90) (.t 92)⟩,
     ⟨(some 94), none, .pick (.t 88) (.c (.bool true)) (.t 93)⟩] [5, 6, 27, 28, 29, 94])
    (.cond (.t 94)
     (.seq (.reg [⟨(some 4), none, .mov (.c (.bool false))⟩] [4])
     .ret)
     .skip)))))))
   (.reg [⟨(some 95), none, .bin .add (.t 29) (.c (.int .i64 1))⟩,
    ⟨(some 29), none, .mov (.t 95)⟩] [5, 6, 27, 28, 29])))))))
 (.seq (.reg [⟨(some 96), none, .mov (.t 5)⟩,
  ⟨(some 97), none, .call 33 [(.t 96)]⟩,
  ⟨(some 98), none, .mov (.t 6)⟩,
  ⟨(some 99), none, .call 34 [(.t 98)]⟩,
  ⟨(some 100), none, .bin .eql (.t 97) (.t 99)⟩,
  ⟨(some 101), none, .mov (.t 100)⟩,
  ⟨(some 102), some (101, true), .mov (.t 5)⟩,
  ⟨(some 103), some (101, true), .call 23 [(.t 102)]⟩,
  ⟨(some 104), some (101, true), .mov (.t 6)⟩,
  ⟨(some 105), some (101, true), .call 37 [(.t 104)]⟩,
  ⟨(some 106), some (101, true), .bin .eql (.t 103) (.t 105)⟩,
  ⟨(some 107), none, .pick (.t 101) (.t 106) (.c (.bool false))⟩,
  ⟨(some 4), none, .mov (.t 107)⟩] [4])
 .ret))))))),
 [.tmp 4], false, false⟩

/-- hopmesh/hopmeshlaw02.BitioBack -/
def F8 : AFn := ⟨123,
 (.seq (.reg [⟨(some 2), none, .mov (.c (.bool false))⟩] [0])
 (.seq (.seq (.reg [⟨(some 12), none, .call 11 []⟩,
  ⟨(some 13), none, .un .not (.t 12)⟩] [0, 13])
 (.cond (.t 13)
  (.seq (.reg [⟨(some 2), none, .mov (.c (.bool false))⟩] [2])
  .ret)
  .skip))
 (.seq (.seq (.reg [⟨(some 14), none, .mov (.t 0)⟩,
  ⟨(some 15), none, .call 12 [(.t 14)]⟩,
  ⟨(some 16), none, .un .not (.t 15)⟩] [0, 16])
 (.cond (.t 16)
  (.seq (.reg [⟨(some 2), none, .mov (.c (.bool true))⟩] [2])
  .ret)
  .skip))
 (.seq (.reg [⟨(some 17), none, .call 13 []⟩,
  ⟨(some 3), none, .mov (.t 17)⟩] [0, 3])
 (.seq (.seq (.reg [⟨(some 18), none, .mov (.t 3)⟩,
  ⟨(some 19), none, .eqp false (.t 18) (.c (.pointer none))⟩] [0, 3, 19])
 (.cond (.t 19)
  (.seq (.reg [⟨(some 2), none, .mov (.c (.bool false))⟩] [2])
  .ret)
  .skip))
 (.seq (.seq (.reg [⟨(some 20), none, .mov (.t 0)⟩,
  ⟨(some 21), none, .lenL (.t 20)⟩,
  ⟨(some 22), none, .mov (.c (.int .i64 0))⟩] [0, 3, 20, 21, 22])
 (.block 0 (.loop (.seq (.reg [⟨(some 23), none, .bin .lss (.t 22) (.t 21)⟩] [0, 3, 20, 21, 22, 23])
   (.seq (.cond (.t 23)
    .skip
    (.exit 0))
   (.seq (.block 1 (.seq (.reg [⟨(some 24), none, .iaddrS 4 (.t 20) (.t 22)⟩,
     ⟨(some 25), none, .load (some 4) (.t 24)⟩,
     ⟨(some 5), none, .new [(.int .i64 0), (.int .i64 0), (.int .i64 0), (.string ⟨#[]⟩)]⟩,
     ⟨none, none, .store 4 (.t 5) (.t 25)⟩] [0, 3, 5, 20, 21, 22])
    (.reg [⟨(some 26), none, .mov (.t 3)⟩,
     ⟨(some 27), none, .load (some 4) (.t 5)⟩,
     ⟨(some 28), none, .call 15 [(.t 26), (.t 27)]⟩] [0, 3, 20, 21, 22])))
   (.reg [⟨(some 29), none, .bin .add (.t 22) (.c (.int .i64 1))⟩,
    ⟨(some 22), none, .mov (.t 29)⟩] [0, 3, 20, 21, 22])))))))
 (.seq (.reg [⟨(some 31), none, .mov (.t 3)⟩,
  ⟨(some 32), none, .call 17 [(.t 31)]⟩,
  ⟨(some 30), none, .mov (.t 32)⟩,
  ⟨(some 33), none, .ext 0 (.t 30)⟩,
  ⟨(some 34), none, .ext 1 (.t 30)⟩,
  ⟨(some 6), none, .mov (.t 33)⟩,
  ⟨(some 7), none, .mov (.t 34)⟩] [0, 3, 6, 7])
 (.seq (.seq (.reg [⟨(some 35), none, .mov (.t 7)⟩,
  ⟨(some 36), none, .bin .neq (.t 35) (.c (.int .i64 0))⟩] [0, 3, 6, 36])
 (.cond (.t 36)
  (.seq (.reg [⟨(some 37), none, .mov (.t 6)⟩,
   ⟨(some 38), none, .bin .eql (.t 37) (.c (.string ⟨#[]⟩))⟩,
   ⟨(some 2), none, .mov (.t 38)⟩] [2])
  .ret)
  .skip))
 (.seq (.seq (.reg [⟨(some 39), none, .mov (.t 6)⟩,
  ⟨(some 40), none, .lenS (.t 39)⟩,
  ⟨(some 41), none, .mov (.t 3)⟩,
  ⟨(some 42), none, .call 19 [(.t 41)]⟩,
  ⟨(some 43), none, .bin .add (.t 42) (.c (.int .i64 7))⟩,
  ⟨(some 44), none, .bin .quo (.t 43) (.c (.int .i64 8))⟩,
  ⟨(some 45), none, .bin .neq (.t 40) (.t 44)⟩] [0, 3, 6, 45])
 (.cond (.t 45)
  (.seq (.reg [⟨(some 2), none, .mov (.c (.bool false))⟩] [2])
  .ret)
  .skip))
 (.seq (.reg [⟨(some 46), none, .mov (.t 6)⟩,
  ⟨(some 47), none, .call 21 [(.t 46)]⟩,
  ⟨(some 8), none, .mov (.t 47)⟩] [0, 3, 6, 8])
 (.seq (.seq (.reg [⟨(some 48), none, .mov (.t 8)⟩,
  ⟨(some 49), none, .eqp false (.t 48) (.c (.pointer none))⟩] [0, 3, 6, 8, 49])
 (.cond (.t 49)
  (.seq (.reg [⟨(some 2), none, .mov (.c (.bool false))⟩] [2])
  .ret)
  .skip))
 (.seq (.seq (.reg [⟨(some 50), none, .mov (.t 0)⟩,
  ⟨(some 51), none, .lenL (.t 50)⟩,
  ⟨(some 52), none, .mov (.c (.int .i64 0))⟩] [3, 6, 8, 50, 51, 52])
 (.block 2 (.loop (.seq (.reg [⟨(some 53), none, .bin .lss (.t 52) (.t 51)⟩] [3, 6, 8, 50, 51, 52, 53])
   (.seq (.cond (.t 53)
    .skip
    (.exit 2))
   (.seq (.block 3 (.seq (.reg [⟨(some 54), none, .iaddrS 4 (.t 50) (.t 52)⟩,
     ⟨(some 55), none, .load (some 4) (.t 54)⟩,
     ⟨(some 10), none, .new [(.int .i64 0), (.int .i64 0), (.int .i64 0), (.string ⟨#[]⟩)]⟩,
     ⟨none, none, .store 4 (.t 10) (.t 55)⟩] [3, 6, 8, 10, 50, 51, 52])
    (.seq (.seq (.reg [⟨(some 56), none, .faddr 0 (.t 10)⟩,
     ⟨(some 57), none, .load none (.t 56)⟩,
     ⟨(some 58), none, .bin .lss (.t 57) (.c (.int .i64 0))⟩,
     ⟨(some 59), none, .mov (.t 58)⟩,
     ⟨(some 60), some (59, false), .faddr 0 (.t 10)⟩,
     ⟨(some 61), some (59, false), .load none (.t 60)⟩,
     ⟨(some 62), some (59, false), .bin .gtr (.t 61) (.c (.int .i64 3))⟩,
     ⟨(some 63), none, .pick (.t 59) (.c (.bool true)) (.t 62)⟩] [3, 6, 8, 10, 50, 51, 52, 63])
    (.cond (.t 63)
     (.exit 3)
     .skip))
    (.seq (.reg [⟨(some 64), none, .mov (.t 8)⟩,
     ⟨(some 65), none, .load (some 4) (.t 10)⟩,
     ⟨(some 66), none, .call 22 [(.t 64), (.t 65)]⟩,
     ⟨(some 11), none, .new [(.int .i64 0), (.int .i64 0), (.int .i64 0), (.string ⟨#[]⟩)]⟩,
     ⟨none, none, .store 4 (.t 11) (.t 66)⟩] [3, 6, 8, 10, 11, 50, 51, 52])
    (.seq (.reg [⟨(some 67), none, .mov (.t 8)⟩,
     ⟨(some 68), none, .call 35 [(.t 67)]⟩,
     ⟨(some 69), none, .bin .neq (.t 68) (.c (.int .i64 0))⟩,
     ⟨(some 70), none, .mov (.t 69)⟩,
     ⟨(some 71), some (70, false), .faddr 0 (.t 10)⟩,
     ⟨(some 72), some (70, false), .load none (.t 71)⟩,
     ⟨(some 73), some (70, false), .bin .leq (.t 72) (.c (.int .i64 1))⟩,
     ⟨(some 74), some (70, false), .mov (.t 73)⟩,
     ⟨(some 75), some (74, true), .faddr 2 (.t 11)⟩,
     ⟨(some 76), some (74, true), .load none (.t 75)⟩,
     ⟨(some 77), some (74, true), .faddr 2 (.t 10)⟩,
     ⟨(some 78), some (74, true), .load none (.t 77)⟩,
     ⟨(some 79), some (74, true), .bin .neq (.t 76) (.t 78)⟩,
     ⟨(some 80), some (70, false), .pick (.t 74) (.t 79) (.c (.bool false))⟩,
     ⟨(some 81), none, .pick (.t 70) (.c (.bool true)) (.t 80)⟩,
     ⟨(some 82), none, .mov (.t 81)⟩,
     ⟨(some 83), some (82, false), .faddr 0 (.t 10)⟩,
     ⟨(some 84), some (82, false), .load none (.t 83)⟩,
     ⟨(some 85), some (82, false), .bin .eql (.t 84) (.c (.int .i64 2))⟩,
     ⟨(some 86), some (82, false), .mov (.t 85)⟩,
     ⟨(some 87), some (86, true), .faddr 2 (.t 11)⟩,
     ⟨(some 88), some (86, true), .load none (.t 87)⟩,
     ⟨(some 89), some (86, true), .bin .eql (.t 88) (.c (.int .i64 1))⟩,
     ⟨(some 90), some (86, true), .faddr 2 (.t 10)⟩,
     ⟨(some 91), some (86, true), .load none (.t 90)⟩,
     ⟨(some 92), some (86, true), .bin .neq (.t 91) (.c (.int .i64 0))⟩,
     ⟨(some 93), some (86, true), .eqb true (.t 89) (.t 92)⟩,
     ⟨(some 94), some (82, false), .pick (.t 86) (.t 93) (.c (.bool false))⟩,
     ⟨(some 95), none, .pick (.t 82) (.c (.bool true)) (.t 94)⟩,
     ⟨(some 96), none, .mov (.t 95)⟩,
     ⟨(some 97), some (96, false), .faddr 0 (.t 10)⟩,
     ⟨(some 98), some (96, false), .load none (.t 97)⟩,
     ⟨(some 99), some (96, false), .bin .eql (.t 98) (.c (.int .i64 3))⟩,
     ⟨(some 100), some (96, false), .mov (.t 99)⟩,
     ⟨(some 101), some (100, true), .faddr 3 (.t 11)⟩,
     ⟨(some 102), some (100, true), .load none (.t 101)⟩,
     ⟨(some 103), some (100, true), .faddr 3 (.t 10)⟩,
     ⟨(some 104), some (100, true), .load none (.t 103)⟩,
     ⟨(some 105), some (100, true), .bin .neq (.t 102) (.t 104)⟩,
     ⟨(some 106), some (96, false), .pick (.t 100) (.t 105) (.c (.bool false))⟩,
     ⟨(some 107), none, .pick (.t 96) (.c (.bool true)) (.t 106)⟩] [3, 6, 8, 50, 51, 52, 107])
    (.cond (.t 107)
     (.seq (.reg [⟨(some 2), none, .mov (.c (.bool false))⟩] [2])
     .ret)
     .skip))))))
   (.reg [⟨(some 108), none, .bin .add (.t 52) (.c (.int .i64 1))⟩,
    ⟨(some 52), none, .mov (.t 108)⟩] [3, 6, 8, 50, 51, 52])))))))
 (.seq (.reg [⟨(some 109), none, .mov (.t 8)⟩,
  ⟨(some 110), none, .call 33 [(.t 109)]⟩,
  ⟨(some 111), none, .mov (.t 6)⟩,
  ⟨(some 112), none, .lenS (.t 111)⟩,
  ⟨(some 113), none, .bin .mul (.c (.int .i64 8)) (.t 112)⟩,
  ⟨(some 114), none, .mov (.t 3)⟩,
  ⟨(some 115), none, .call 19 [(.t 114)]⟩,
  ⟨(some 116), none, .bin .sub (.t 113) (.t 115)⟩,
  ⟨(some 117), none, .bin .eql (.t 110) (.t 116)⟩,
  ⟨(some 118), none, .mov (.t 117)⟩,
  ⟨(some 119), some (118, true), .mov (.t 8)⟩,
  ⟨(some 120), some (118, true), .call 23 [(.t 119)]⟩,
  ⟨(some 121), some (118, true), .bin .eql (.t 120) (.c (.int .i64 0))⟩,
  ⟨(some 122), none, .pick (.t 118) (.t 121) (.c (.bool false))⟩,
  ⟨(some 2), none, .mov (.t 122)⟩] [2])
 .ret))))))))))))),
 [.tmp 2], false, false⟩

/-- hopmesh/hopmeshlaw02.BitioStops -/
def F9 : AFn := ⟨81,
 (.seq (.reg [⟨(some 4), none, .mov (.c (.bool false))⟩] [0, 1])
 (.seq (.seq (.reg [⟨(some 10), none, .call 11 []⟩,
  ⟨(some 11), none, .un .not (.t 10)⟩] [0, 1, 11])
 (.cond (.t 11)
  (.seq (.reg [⟨(some 4), none, .mov (.c (.bool false))⟩] [4])
  .ret)
  .skip))
 (.seq (.seq (.reg [⟨(some 12), none, .mov (.t 0)⟩,
  ⟨(some 13), none, .lenS (.t 12)⟩,
  ⟨(some 14), none, .bin .gtr (.t 13) (.c (.int .i64 300))⟩,
  ⟨(some 15), none, .mov (.t 14)⟩,
  ⟨(some 16), some (15, false), .mov (.t 1)⟩,
  ⟨(some 17), some (15, false), .call 12 [(.t 16)]⟩,
  ⟨(some 18), some (15, false), .un .not (.t 17)⟩,
  ⟨(some 19), none, .pick (.t 15) (.c (.bool true)) (.t 18)⟩] [0, 1, 19])
 (.cond (.t 19)
  (.seq (.reg [⟨(some 4), none, .mov (.c (.bool true))⟩] [4])
  .ret)
  .skip))
 (.seq (.reg [⟨(some 20), none, .mov (.t 0)⟩,
  ⟨(some 21), none, .call 21 [(.t 20)]⟩,
  ⟨(some 5), none, .mov (.t 21)⟩] [1, 5])
 (.seq (.seq (.reg [⟨(some 22), none, .mov (.t 5)⟩,
  ⟨(some 23), none, .eqp false (.t 22) (.c (.pointer none))⟩] [1, 5, 23])
 (.cond (.t 23)
  (.seq (.reg [⟨(some 4), none, .mov (.c (.bool false))⟩] [4])
  .ret)
  .skip))
 (.seq (.reg [⟨(some 6), none, .mov (.c (.int .i64 0))⟩] [1, 5, 6])
 (.seq (.seq (.reg [⟨(some 24), none, .mov (.t 1)⟩,
  ⟨(some 25), none, .lenL (.t 24)⟩,
  ⟨(some 26), none, .mov (.c (.int .i64 0))⟩] [5, 6, 24, 25, 26])
 (.block 0 (.loop (.seq (.reg [⟨(some 27), none, .bin .lss (.t 26) (.t 25)⟩] [5, 6, 24, 25, 26, 27])
   (.seq (.cond (.t 27)
    .skip
    (.exit 0))
   (.seq (.block 1 (.seq (.reg [⟨(some 28), none, .iaddrS 4 (.t 24) (.t 26)⟩,
     ⟨(some 29), none, .load (some 4) (.t 28)⟩,
     ⟨(some 8), none, .new [(.int .i64 0), (.int .i64 0), (.int .i64 0), (.string ⟨#[]⟩)]⟩,
     ⟨none, none, .store 4 (.t 8) (.t 29)⟩] [5, 6, 8, 24, 25, 26])
    (.seq (.reg [⟨(some 30), none, .mov (.t 5)⟩,
     ⟨(some 31), none, .load (some 4) (.t 8)⟩,
     ⟨(some 32), none, .call 22 [(.t 30), (.t 31)]⟩,
     ⟨(some 9), none, .new [(.int .i64 0), (.int .i64 0), (.int .i64 0), (.string ⟨#[]⟩)]⟩,
     ⟨none, none, .store 4 (.t 9) (.t 32)⟩] [5, 6, 8, 9, 24, 25, 26])
    (.seq (.seq (.reg [⟨(some 33), none, .mov (.t 6)⟩,
     ⟨(some 34), none, .bin .neq (.t 33) (.c (.int .i64 0))⟩,
     ⟨(some 35), none, .mov (.t 34)⟩,
     ⟨(some 36), some (35, true), .mov (.t 5)⟩,
     ⟨(some 37), some (35, true), .call 35 [(.t 36)]⟩,
     ⟨(some 38), some (35, true), .mov (.t 6)⟩,
     ⟨(some 39), some (35, true), .bin .neq (.t 37) (.t 38)⟩,
     ⟨(some 40), some (35, true), .mov (.t 39)⟩,
     ⟨(some 41), some (40, false), .faddr 0 (.t 8)⟩,
     ⟨(some 42), some (40, false), .load none (.t 41)⟩,
     ⟨(some 43), some (40, false), .bin .geq (.t 42) (.c (.int .i64 0))⟩,
     ⟨(some 44), some (40, false), .mov (.t 43)⟩,
     ⟨(some 45), some (44, true), .faddr 0 (.t 8)⟩,
     ⟨(some 46), some (44, true), .load none (.t 45)⟩,
     ⟨(some 47), some (44, true), .bin .leq (.t 46) (.c (.int .i64 3))⟩,
     ⟨(some 48), some (40, false), .pick (.t 44) (.t 47) (.c (.bool false))⟩,
     ⟨(some 49), some (40, false), .mov (.t 48)⟩,
     ⟨(some 50), some (49, true), .faddr 2 (.t 9)⟩,
     ⟨(some 51), some (49, true), .load none (.t 50)⟩,
     ⟨(some 52), some (49, true), .bin .neq (.t 51) (.c (.int .i64 0))⟩,
     ⟨(some 53), some (49, true), .mov (.t 52)⟩,
     ⟨(some 54), some (53, false), .faddr 3 (.t 9)⟩,
     ⟨(some 55), some (53, false), .load none (.t 54)⟩,
     ⟨(some 56), some (53, false), .bin .neq (.t 55) (.c (.string ⟨#[]⟩))⟩,
     ⟨(some 57), some (49, true), .pick (.t 53) (.c (.bool true)) (.t 56)⟩,
     ⟨(some 58), some (40, false), .pick (.t 49) (.t 57) (.c (.bool false))⟩,
     ⟨(some 59), some (35, true), .pick (.t 40) (.c (.bool true)) (.t 58)⟩,
     ⟨(some 60), none, .pick (.t 35) (.t 59) (.c (.bool false))⟩] [5, 24, 25, 26, 60])
    (.cond (.t 60)
     (.seq (.reg [⟨(some 4), none, .mov (.c (.bool false))⟩] [4])
     .ret)
     .skip))
    (.seq (.reg [⟨(some 61), none, .mov (.t 5)⟩,
     ⟨(some 62), none, .call 35 [(.t 61)]⟩,
     ⟨(some 6), none, .mov (.t 62)⟩] [5, 6, 24, 25, 26])
    (.seq (.reg [⟨(some 63), none, .mov (.t 6)⟩,
     ⟨(some 64), none, .bin .neq (.t 63) (.c (.int .i64 0))⟩,
     ⟨(some 65), none, .mov (.t 64)⟩,
     ⟨(some 66), some (65, true), .mov (.t 5)⟩,
     ⟨(some 67), some (65, true), .call 33 [(.t 66)]⟩,
     ⟨(some 68), some (65, true), .bin .neq (.t 67) (.c (.int .i64 0))⟩,
     ⟨(some 69), some (65, true), .mov (.t 68)⟩,
     ⟨(some 70), some (69, false), .mov (.t 5)⟩,
     ⟨(some 71), some (69, false), .call 23 [(.t 70)]⟩,
     ⟨(some 72), some (69, false), .mov (.t 6)⟩,
     ⟨(some 73), some (69, false), .bin .neq (.t 71) (.t 72)⟩,
     ⟨(some 74), some (65, true), .pick (.t 69) (.c (.bool true)) (.t 73)⟩,
     ⟨(some 75), none, .pick (.t 65) (.t 74) (.c (.bool false))⟩] [5, 6, 24, 25, 26, 75])
    (.cond (.t 75)
     (.seq (.reg [⟨(some 4), none, .mov (.c (.bool false))⟩] [4])
     .ret)
     .skip)))))))
   (.reg [⟨(some 76), none, .bin .add (.t 26) (.c (.int .i64 1))⟩,
    ⟨(some 26), none, .mov (.t 76)⟩] [5, 6, 24, 25, 26])))))))
 (.seq (.reg [⟨(some 77), none, .mov (.t 5)⟩,
  ⟨(some 78), none, .call 35 [(.t 77)]⟩,
  ⟨(some 79), none, .mov (.t 6)⟩,
  ⟨(some 80), none, .bin .eql (.t 78) (.t 79)⟩,
  ⟨(some 4), none, .mov (.t 80)⟩] [4])
 .ret)))))))),
 [.tmp 4], false, false⟩

/-- hopmesh/hopmeshlaw02.BitioFull -/
def F10 : AFn := ⟨94,
 (.seq (.reg [⟨(some 2), none, .mov (.c (.bool false))⟩] [0])
 (.seq (.seq (.reg [⟨(some 11), none, .call 11 []⟩,
  ⟨(some 12), none, .un .not (.t 11)⟩] [0, 12])
 (.cond (.t 12)
  (.seq (.reg [⟨(some 2), none, .mov (.c (.bool false))⟩] [2])
  .ret)
  .skip))
 (.seq (.reg [⟨(some 13), none, .call 13 []⟩,
  ⟨(some 3), none, .mov (.t 13)⟩] [0, 3])
 (.seq (.seq (.reg [⟨(some 14), none, .mov (.t 3)⟩,
  ⟨(some 15), none, .eqp false (.t 14) (.c (.pointer none))⟩] [0, 3, 15])
 (.cond (.t 15)
  (.seq (.reg [⟨(some 2), none, .mov (.c (.bool false))⟩] [2])
  .ret)
  .skip))
 (.seq (.reg [⟨(some 4), none, .mov (.c (.int .i64 0))⟩] [0, 3, 4])
 (.seq (.reg [⟨(some 16), none, .mkS 1 [(.int .u8 0)] (.c (.int .i64 4000)) (.c (.int .i64 4000))⟩,
  ⟨(some 17), none, .cvBS (.t 16)⟩,
  ⟨(some 5), none, .mov (.t 17)⟩] [0, 3, 4, 5])
 (.seq (.seq (.reg [⟨(some 18), none, .mov (.c (.int .i64 0))⟩] [0, 3, 4, 5, 18])
 (.block 0 (.loop (.seq (.reg [⟨(some 19), none, .bin .lss (.t 18) (.c (.int .i64 16))⟩] [0, 3, 4, 5, 18, 19])
   (.seq (.cond (.t 19)
    .skip
    (.exit 0))
   (.seq (.block 1 (.seq (.reg [⟨(some 20), none, .mov (.t 3)⟩,
     ⟨(some 21), none, .mov (.t 5)⟩,
     ⟨(some 22), none, .call 38 [(.t 20), (.c (.int .i64 4000)), (.t 21)]⟩] [0, 3, 4, 5, 18])
    (.reg [⟨(some 23), none, .mov (.t 4)⟩,
     ⟨(some 24), none, .bin .add (.t 23) (.c (.int .i64 32012))⟩,
     ⟨(some 4), none, .mov (.t 24)⟩] [0, 3, 4, 5, 18])))
   (.reg [⟨(some 25), none, .bin .add (.t 18) (.c (.int .i64 1))⟩,
    ⟨(some 18), none, .mov (.t 25)⟩] [0, 3, 4, 5, 18])))))))
 (.seq (.block 2 (.loop (.seq (.seq (.reg [⟨(some 26), none, .mov (.t 4)⟩,
    ⟨(some 27), none, .bin .add (.t 26) (.c (.int .i64 60))⟩,
    ⟨(some 28), none, .bin .leq (.t 27) (.c (.int .i64 524288))⟩] [0, 3, 4, 28])
   (.cond (.t 28)
    .skip
    (.exit 2)))
   (.block 3 (.seq (.reg [⟨(some 29), none, .mov (.t 3)⟩,
     ⟨(some 30), none, .call 25 [(.t 29), (.c (.int .i64 60)), (.c (.int .i64 1))]⟩] [0, 3, 4])
    (.reg [⟨(some 31), none, .mov (.t 4)⟩,
     ⟨(some 32), none, .bin .add (.t 31) (.c (.int .i64 60))⟩,
     ⟨(some 4), none, .mov (.t 32)⟩] [0, 3, 4]))))))
 (.seq (.reg [⟨(some 33), none, .mov (.t 4)⟩,
  ⟨(some 34), none, .bin .sub (.c (.int .i64 524288)) (.t 33)⟩,
  ⟨(some 6), none, .mov (.t 34)⟩] [0, 3, 4, 6])
 (.seq (.reg [⟨(some 35), none, .mov (.t 0)⟩,
  ⟨(some 36), none, .cvI .i64 (.t 35)⟩,
  ⟨(some 37), none, .bin .rem (.t 36) (.c (.int .i64 62))⟩,
  ⟨(some 38), none, .bin .add (.c (.int .i64 1)) (.t 37)⟩,
  ⟨(some 7), none, .mov (.t 38)⟩] [3, 4, 6, 7])
 (.seq (.reg [⟨(some 39), none, .mov (.t 3)⟩,
  ⟨(some 40), none, .mov (.t 7)⟩,
  ⟨(some 41), none, .call 25 [(.t 39), (.t 40), (.c (.int .i64 1))]⟩] [3, 4, 6, 7])
 (.seq (.reg [⟨(some 43), none, .mov (.t 3)⟩,
  ⟨(some 44), none, .call 17 [(.t 43)]⟩,
  ⟨(some 42), none, .mov (.t 44)⟩,
  ⟨(some 45), none, .ext 0 (.t 42)⟩,
  ⟨(some 46), none, .ext 1 (.t 42)⟩,
  ⟨(some 8), none, .mov (.t 45)⟩,
  ⟨(some 9), none, .mov (.t 46)⟩] [3, 4, 6, 7, 8, 9])
 (.seq (.seq (.reg [⟨(some 47), none, .mov (.t 7)⟩,
  ⟨(some 48), none, .mov (.t 6)⟩,
  ⟨(some 49), none, .bin .gtr (.t 47) (.t 48)⟩] [3, 4, 7, 8, 9, 49])
 (.cond (.t 49)
  (.seq (.reg [⟨(some 50), none, .mov (.t 9)⟩,
   ⟨(some 51), none, .bin .eql (.t 50) (.c (.int .i64 8))⟩,
   ⟨(some 52), none, .mov (.t 51)⟩,
   ⟨(some 53), some (52, true), .mov (.t 8)⟩,
   ⟨(some 54), some (52, true), .bin .eql (.t 53) (.c (.string ⟨#[]⟩))⟩,
   ⟨(some 55), none, .pick (.t 52) (.t 54) (.c (.bool false))⟩,
   ⟨(some 56), none, .mov (.t 55)⟩,
   ⟨(some 57), some (56, true), .mov (.t 3)⟩,
   ⟨(some 58), some (56, true), .call 19 [(.t 57)]⟩,
   ⟨(some 59), some (56, true), .mov (.t 4)⟩,
   ⟨(some 60), some (56, true), .bin .eql (.t 58) (.t 59)⟩,
   ⟨(some 61), none, .pick (.t 56) (.t 60) (.c (.bool false))⟩,
   ⟨(some 2), none, .mov (.t 61)⟩] [2])
  .ret)
  .skip))
 (.seq (.reg [⟨(some 62), none, .mov (.t 8)⟩,
  ⟨(some 63), none, .bin .add (.t 62) (.c (.string ⟨#[0]⟩))⟩,
  ⟨(some 64), none, .call 21 [(.t 63)]⟩,
  ⟨(some 10), none, .mov (.t 64)⟩] [3, 4, 7, 8, 9, 10])
 (.seq (.reg [⟨(some 65), none, .mov (.t 9)⟩,
  ⟨(some 66), none, .bin .eql (.t 65) (.c (.int .i64 0))⟩,
  ⟨(some 67), none, .mov (.t 66)⟩,
  ⟨(some 68), some (67, true), .mov (.t 3)⟩,
  ⟨(some 69), some (67, true), .call 19 [(.t 68)]⟩,
  ⟨(some 70), some (67, true), .mov (.t 4)⟩,
  ⟨(some 71), some (67, true), .mov (.t 7)⟩,
  ⟨(some 72), some (67, true), .bin .add (.t 70) (.t 71)⟩,
  ⟨(some 73), some (67, true), .bin .eql (.t 69) (.t 72)⟩,
  ⟨(some 74), none, .pick (.t 67) (.t 73) (.c (.bool false))⟩,
  ⟨(some 75), none, .mov (.t 74)⟩,
  ⟨(some 76), some (75, true), .mov (.t 10)⟩,
  ⟨(some 77), some (75, true), .eqp true (.t 76) (.c (.pointer none))⟩,
  ⟨(some 78), none, .pick (.t 75) (.t 77) (.c (.bool false))⟩,
  ⟨(some 79), none, .mov (.t 78)⟩,
  ⟨(some 80), some (79, true), .mov (.t 8)⟩,
  ⟨(some 81), some (79, true), .lenS (.t 80)⟩,
  ⟨(some 82), some (79, true), .bin .lss (.t 81) (.c (.int .i64 65536))⟩,
  ⟨(some 83), some (79, true), .mov (.t 82)⟩,
  ⟨(some 84), some (83, false), .mov (.t 10)⟩,
  ⟨(some 85), some (83, false), .call 35 [(.t 84)]⟩,
  ⟨(some 86), some (83, false), .bin .eql (.t 85) (.c (.int .i64 8))⟩,
  ⟨(some 87), some (83, false), .mov (.t 86)⟩,
  ⟨(some 88), some (87, true), .mov (.t 10)⟩,
  ⟨(some 89), some (87, true), .call 33 [(.t 88)]⟩,
  ⟨(some 90), some (87, true), .bin .eql (.t 89) (.c (.int .i64 0))⟩,
  ⟨(some 91), some (83, false), .pick (.t 87) (.t 90) (.c (.bool false))⟩,
  ⟨(some 92), some (79, true), .pick (.t 83) (.c (.bool true)) (.t 91)⟩,
  ⟨(some 93), none, .pick (.t 79) (.t 92) (.c (.bool false))⟩,
  ⟨(some 2), none, .mov (.t 93)⟩] [2])
 .ret))))))))))))))),
 [.tmp 2], false, false⟩

/-- hopmesh/hopmeshlaw02.awake -/
def F11 : AFn := ⟨68,
 (.seq (.reg [⟨(some 0), none, .mov (.c (.bool false))⟩] [])
 (.seq (.reg [⟨(some 5), none, .call 13 []⟩,
  ⟨(some 1), none, .mov (.t 5)⟩] [1])
 (.seq (.seq (.reg [⟨(some 6), none, .mov (.t 1)⟩,
  ⟨(some 7), none, .eqp false (.t 6) (.c (.pointer none))⟩] [1, 7])
 (.cond (.t 7)
  (.seq (.reg [⟨(some 0), none, .mov (.c (.bool false))⟩] [0])
  .ret)
  .skip))
 (.seq (.reg [⟨(some 8), none, .mov (.t 1)⟩,
  ⟨(some 9), none, .call 25 [(.t 8), (.c (.int .i64 3)), (.c (.int .i64 5))]⟩] [1])
 (.seq (.reg [⟨(some 10), none, .mov (.t 1)⟩,
  ⟨(some 11), none, .call 26 [(.t 10), (.c (.int .i64 4)), (.c (.int .i64 (-1)))]⟩] [1])
 (.seq (.reg [⟨(some 12), none, .mov (.t 1)⟩,
  ⟨(some 13), none, .call 39 [(.t 12), (.c (.bool true))]⟩] [1])
 (.seq (.reg [⟨(some 14), none, .mov (.t 1)⟩,
  ⟨(some 15), none, .call 38 [(.t 14), (.c (.int .i64 3)), (.c (.string ⟨#[65]⟩))]⟩] [1])
 (.seq (.reg [⟨(some 17), none, .mov (.t 1)⟩,
  ⟨(some 18), none, .call 17 [(.t 17)]⟩,
  ⟨(some 16), none, .mov (.t 18)⟩,
  ⟨(some 19), none, .ext 0 (.t 16)⟩,
  ⟨(some 20), none, .ext 1 (.t 16)⟩,
  ⟨(some 2), none, .mov (.t 19)⟩,
  ⟨(some 3), none, .mov (.t 20)⟩] [1, 2, 3])
 (.seq (.reg [⟨(some 21), none, .call 21 [(.c (.string ⟨#[191, 80, 64]⟩))]⟩,
  ⟨(some 4), none, .mov (.t 21)⟩] [1, 2, 3, 4])
 (.seq (.seq (.reg [⟨(some 22), none, .mov (.t 4)⟩,
  ⟨(some 23), none, .eqp false (.t 22) (.c (.pointer none))⟩] [1, 2, 3, 4, 23])
 (.cond (.t 23)
  (.seq (.reg [⟨(some 0), none, .mov (.c (.bool false))⟩] [0])
  .ret)
  .skip))
 (.seq (.reg [⟨(some 24), none, .mov (.t 3)⟩,
  ⟨(some 25), none, .bin .eql (.t 24) (.c (.int .i64 0))⟩,
  ⟨(some 26), none, .mov (.t 25)⟩,
  ⟨(some 27), some (26, true), .mov (.t 2)⟩,
  ⟨(some 28), some (26, true), .bin .eql (.t 27) (.c (.string ⟨#[191, 80, 64]⟩))⟩,
  ⟨(some 29), none, .pick (.t 26) (.t 28) (.c (.bool false))⟩,
  ⟨(some 30), none, .mov (.t 29)⟩,
  ⟨(some 31), some (30, true), .mov (.t 1)⟩,
  ⟨(some 32), some (30, true), .call 19 [(.t 31)]⟩,
  ⟨(some 33), some (30, true), .bin .eql (.t 32) (.c (.int .i64 18))⟩,
  ⟨(some 34), none, .pick (.t 30) (.t 33) (.c (.bool false))⟩,
  ⟨(some 35), none, .mov (.t 34)⟩,
  ⟨(some 36), some (35, true), .mov (.t 4)⟩,
  ⟨(some 37), some (35, true), .call 40 [(.t 36), (.c (.int .i64 3))]⟩,
  ⟨(some 38), some (35, true), .bin .eql (.t 37) (.c (.int .i64 5))⟩,
  ⟨(some 39), none, .pick (.t 35) (.t 38) (.c (.bool false))⟩,
  ⟨(some 40), none, .mov (.t 39)⟩,
  ⟨(some 41), some (40, true), .mov (.t 4)⟩,
  ⟨(some 42), some (40, true), .call 27 [(.t 41), (.c (.int .i64 4))]⟩,
  ⟨(some 43), some (40, true), .bin .eql (.t 42) (.c (.int .i64 (-1)))⟩,
  ⟨(some 44), none, .pick (.t 40) (.t 43) (.c (.bool false))⟩,
  ⟨(some 45), none, .mov (.t 44)⟩,
  ⟨(some 46), some (45, true), .mov (.t 4)⟩,
  ⟨(some 47), some (45, true), .call 41 [(.t 46)]⟩,
  ⟨(some 48), none, .pick (.t 45) (.t 47) (.c (.bool false))⟩,
  ⟨(some 49), none, .mov (.t 48)⟩,
  ⟨(some 50), some (49, true), .mov (.t 4)⟩,
  ⟨(some 51), some (49, true), .call 42 [(.t 50), (.c (.int .i64 3))]⟩,
  ⟨(some 52), some (49, true), .bin .eql (.t 51) (.c (.string ⟨#[65]⟩))⟩,
  ⟨(some 53), none, .pick (.t 49) (.t 52) (.c (.bool false))⟩,
  ⟨(some 54), none, .mov (.t 53)⟩,
  ⟨(some 55), some (54, true), .mov (.t 4)⟩,
  ⟨(some 56), some (54, true), .call 33 [(.t 55)]⟩,
  ⟨(some 57), some (54, true), .bin .eql (.t 56) (.c (.int .i64 6))⟩,
  ⟨(some 58), none, .pick (.t 54) (.t 57) (.c (.bool false))⟩,
  ⟨(some 59), none, .mov (.t 58)⟩,
  ⟨(some 60), some (59, true), .mov (.t 4)⟩,
  ⟨(some 61), some (59, true), .call 23 [(.t 60)]⟩,
  ⟨(some 62), some (59, true), .bin .eql (.t 61) (.c (.int .i64 0))⟩,
  ⟨(some 63), none, .pick (.t 59) (.t 62) (.c (.bool false))⟩,
  ⟨(some 64), none, .mov (.t 63)⟩,
  ⟨(some 65), some (64, true), .call 24 [(.c (.int .i64 3))]⟩,
  ⟨(some 66), some (64, true), .bin .eql (.t 65) (.c (.int .i64 2))⟩,
  ⟨(some 67), none, .pick (.t 64) (.t 66) (.c (.bool false))⟩,
  ⟨(some 0), none, .mov (.t 67)⟩] [0])
 .ret))))))))))),
 [.tmp 0], true, true⟩

/-- hopmesh/hopmeshlaw02.few -/
def F12 : AFn := ⟨19,
 (.seq (.reg [⟨(some 2), none, .mov (.c (.bool false))⟩] [0])
 (.seq (.seq (.reg [⟨(some 5), none, .mov (.t 0)⟩,
  ⟨(some 6), none, .lenL (.t 5)⟩,
  ⟨(some 7), none, .bin .gtr (.t 6) (.c (.int .i64 40))⟩] [0, 7])
 (.cond (.t 7)
  (.seq (.reg [⟨(some 2), none, .mov (.c (.bool false))⟩] [2])
  .ret)
  .skip))
 (.seq (.seq (.reg [⟨(some 8), none, .mov (.t 0)⟩,
  ⟨(some 9), none, .lenL (.t 8)⟩,
  ⟨(some 10), none, .mov (.c (.int .i64 0))⟩] [8, 9, 10])
 (.block 0 (.loop (.seq (.reg [⟨(some 11), none, .bin .lss (.t 10) (.t 9)⟩] [8, 9, 10, 11])
   (.seq (.cond (.t 11)
    .skip
    (.exit 0))
   (.seq (.block 1 (.seq (.reg [⟨(some 12), none, .iaddrS 4 (.t 8) (.t 10)⟩,
     ⟨(some 13), none, .load (some 4) (.t 12)⟩,
     ⟨(some 4), none, .new [(.int .i64 0), (.int .i64 0), (.int .i64 0), (.string ⟨#[]⟩)]⟩,
     ⟨none, none, .store 4 (.t 4) (.t 13)⟩] [4, 8, 9, 10])
    (.seq (.reg [⟨(some 14), none, .faddr 3 (.t 4)⟩,
     ⟨(some 15), none, .load none (.t 14)⟩,
     ⟨(some 16), none, .lenS (.t 15)⟩,
     ⟨(some 17), none, .bin .gtr (.t 16) (.c (.int .i64 200))⟩] [8, 9, 10, 17])
    (.cond (.t 17)
     (.seq (.reg [⟨(some 2), none, .mov (.c (.bool false))⟩] [2])
     .ret)
     .skip))))
   (.reg [⟨(some 18), none, .bin .add (.t 10) (.c (.int .i64 1))⟩,
    ⟨(some 10), none, .mov (.t 18)⟩] [8, 9, 10])))))))
 (.seq (.reg [⟨(some 2), none, .mov (.c (.bool true))⟩] [2])
 .ret)))),
 [.tmp 2], false, false⟩

/-- hopmesh/bitio.NewWriter -/
def F13 : AFn := ⟨3,
 (.seq (.reg [⟨(some 0), none, .mov (.c (.pointer none))⟩] [])
 (.seq (.reg [⟨(some 1), none, .build [(.slice none 0 0), (.int .i64 0), (.int .i64 0)] []⟩,
  ⟨(some 2), none, .box (.t 1)⟩,
  ⟨(some 0), none, .mov (.t 2)⟩] [0])
 .ret)),
 [.tmp 0], false, false⟩

/-- hopmesh/hopmeshref02.NewWriter -/
def F14 : AFn := ⟨3,
 (.seq (.reg [⟨(some 0), none, .mov (.c (.pointer none))⟩] [])
 (.seq (.reg [⟨(some 1), none, .build [(.slice none 0 0), (.int .i64 0)] []⟩,
  ⟨(some 2), none, .box (.t 1)⟩,
  ⟨(some 0), none, .mov (.t 2)⟩] [0])
 .ret)),
 [.tmp 0], false, false⟩

/-- hopmesh/hopmeshlaw02.write -/
def F15 : AFn := ⟨37,
 (.seq (.reg [⟨(some 3), none, .box (.t 1)⟩] [0, 3])
 (.seq (.reg [⟨(some 4), none, .faddr 0 (.t 3)⟩,
  ⟨(some 5), none, .load none (.t 4)⟩] [0, 3, 5])
 (.block 0 (.seq (.reg [⟨(some 7), none, .bin .eql (.t 5) (.c (.int .i64 0))⟩,
   ⟨(some 6), none, .mov (.t 7)⟩] [0, 3, 5, 6])
  (.cond (.t 6)
   (.reg [⟨(some 8), none, .mov (.t 0)⟩,
    ⟨(some 9), none, .faddr 1 (.t 3)⟩,
    ⟨(some 10), none, .load none (.t 9)⟩,
    ⟨(some 11), none, .faddr 2 (.t 3)⟩,
    ⟨(some 12), none, .load none (.t 11)⟩,
    ⟨(some 13), none, .call 25 [(.t 8), (.t 10), (.t 12)]⟩] [])
   (.seq (.reg [⟨(some 15), none, .bin .eql (.t 5) (.c (.int .i64 1))⟩,
    ⟨(some 14), none, .mov (.t 15)⟩] [0, 3, 5, 14])
   (.cond (.t 14)
    (.reg [⟨(some 16), none, .mov (.t 0)⟩,
     ⟨(some 17), none, .faddr 1 (.t 3)⟩,
     ⟨(some 18), none, .load none (.t 17)⟩,
     ⟨(some 19), none, .faddr 2 (.t 3)⟩,
     ⟨(some 20), none, .load none (.t 19)⟩,
     ⟨(some 21), none, .call 26 [(.t 16), (.t 18), (.t 20)]⟩] [])
    (.seq (.reg [⟨(some 23), none, .bin .eql (.t 5) (.c (.int .i64 2))⟩,
     ⟨(some 22), none, .mov (.t 23)⟩] [0, 3, 5, 22])
    (.cond (.t 22)
     (.reg [⟨(some 24), none, .mov (.t 0)⟩,
      ⟨(some 25), none, .faddr 2 (.t 3)⟩,
      ⟨(some 26), none, .load none (.t 25)⟩,
      ⟨(some 27), none, .bin .neq (.t 26) (.c (.int .i64 0))⟩,
      ⟨(some 28), none, .call 39 [(.t 24), (.t 27)]⟩] [])
     (.seq (.reg [⟨(some 30), none, .bin .eql (.t 5) (.c (.int .i64 3))⟩,
      ⟨(some 29), none, .mov (.t 30)⟩] [0, 3, 29])
     (.cond (.t 29)
      (.reg [⟨(some 31), none, .mov (.t 0)⟩,
       ⟨(some 32), none, .faddr 1 (.t 3)⟩,
       ⟨(some 33), none, .load none (.t 32)⟩,
       ⟨(some 34), none, .faddr 3 (.t 3)⟩,
       ⟨(some 35), none, .load none (.t 34)⟩,
       ⟨(some 36), none, .call 38 [(.t 31), (.t 33), (.t 35)]⟩] [])
      .skip))))))))))),
 [], false, false⟩

/-- hopmesh/hopmeshlaw02.refWrite -/
def F16 : AFn := ⟨37,
 (.seq (.reg [⟨(some 3), none, .box (.t 1)⟩] [0, 3])
 (.seq (.reg [⟨(some 4), none, .faddr 0 (.t 3)⟩,
  ⟨(some 5), none, .load none (.t 4)⟩] [0, 3, 5])
 (.block 0 (.seq (.reg [⟨(some 7), none, .bin .eql (.t 5) (.c (.int .i64 0))⟩,
   ⟨(some 6), none, .mov (.t 7)⟩] [0, 3, 5, 6])
  (.cond (.t 6)
   (.reg [⟨(some 8), none, .mov (.t 0)⟩,
    ⟨(some 9), none, .faddr 1 (.t 3)⟩,
    ⟨(some 10), none, .load none (.t 9)⟩,
    ⟨(some 11), none, .faddr 2 (.t 3)⟩,
    ⟨(some 12), none, .load none (.t 11)⟩,
    ⟨(some 13), none, .call 43 [(.t 8), (.t 10), (.t 12)]⟩] [])
   (.seq (.reg [⟨(some 15), none, .bin .eql (.t 5) (.c (.int .i64 1))⟩,
    ⟨(some 14), none, .mov (.t 15)⟩] [0, 3, 5, 14])
   (.cond (.t 14)
    (.reg [⟨(some 16), none, .mov (.t 0)⟩,
     ⟨(some 17), none, .faddr 1 (.t 3)⟩,
     ⟨(some 18), none, .load none (.t 17)⟩,
     ⟨(some 19), none, .faddr 2 (.t 3)⟩,
     ⟨(some 20), none, .load none (.t 19)⟩,
     ⟨(some 21), none, .call 44 [(.t 16), (.t 18), (.t 20)]⟩] [])
    (.seq (.reg [⟨(some 23), none, .bin .eql (.t 5) (.c (.int .i64 2))⟩,
     ⟨(some 22), none, .mov (.t 23)⟩] [0, 3, 5, 22])
    (.cond (.t 22)
     (.reg [⟨(some 24), none, .mov (.t 0)⟩,
      ⟨(some 25), none, .faddr 2 (.t 3)⟩,
      ⟨(some 26), none, .load none (.t 25)⟩,
      ⟨(some 27), none, .bin .neq (.t 26) (.c (.int .i64 0))⟩,
      ⟨(some 28), none, .call 45 [(.t 24), (.t 27)]⟩] [])
     (.seq (.reg [⟨(some 30), none, .bin .eql (.t 5) (.c (.int .i64 3))⟩,
      ⟨(some 29), none, .mov (.t 30)⟩] [0, 3, 29])
     (.cond (.t 29)
      (.reg [⟨(some 31), none, .mov (.t 0)⟩,
       ⟨(some 32), none, .faddr 1 (.t 3)⟩,
       ⟨(some 33), none, .load none (.t 32)⟩,
       ⟨(some 34), none, .faddr 3 (.t 3)⟩,
       ⟨(some 35), none, .load none (.t 34)⟩,
       ⟨(some 36), none, .call 46 [(.t 31), (.t 33), (.t 35)]⟩] [])
      .skip))))))))))),
 [], false, false⟩

/-- (*hopmesh/bitio.Writer).Bytes -/
def F17 : AFn := ⟨18,
 (.seq (.reg [⟨(some 2), none, .mov (.c (.string ⟨#[]⟩))⟩,
  ⟨(some 3), none, .mov (.c (.int .i64 0))⟩] [0])
 (.seq (.seq (.reg [⟨(some 4), none, .mov (.t 0)⟩,
  ⟨(some 5), none, .nilck (.t 4)⟩,
  ⟨(some 6), none, .faddr 2 (.t 5)⟩,
  ⟨(some 7), none, .load none (.t 6)⟩,
  ⟨(some 8), none, .bin .neq (.t 7) (.c (.int .i64 0))⟩] [0, 8])
 (.cond (.t 8)
  (.seq (.regd [⟨⟨(some 9), none, .mov (.t 0)⟩, false, 0⟩,
   ⟨⟨(some 10), none, .nilck (.t 9)⟩, false, 0⟩,
   ⟨⟨(some 11), none, .faddr 2 (.t 10)⟩, false, 0⟩,
   ⟨⟨(some 12), none, .load none (.t 11)⟩, false, 0⟩,
   ⟨⟨(some 2), none, .mov (.c (.string ⟨#[]⟩))⟩, false, 0⟩,
   ⟨⟨(some 3), none, .mov (.t 12)⟩, false, 0⟩] [2, 3])
  .ret)
  .skip))
 (.seq (.reg [⟨(some 13), none, .mov (.t 0)⟩,
  ⟨(some 14), none, .nilck (.t 13)⟩,
  ⟨(some 15), none, .faddr 0 (.t 14)⟩,
  ⟨(some 16), none, .load none (.t 15)⟩,
  ⟨(some 17), none, .cvBS (.t 16)⟩,
  ⟨(some 2), none, .mov (.t 17)⟩,
  ⟨(some 3), none, .mov (.c (.int .i64 0))⟩] [2, 3])
 .ret))),
 [.tmp 2, .tmp 3], false, false⟩

/-- (*hopmesh/hopmeshref02.Writer).Bytes -/
def F18 : AFn := ⟨55,
 (.seq (.reg [⟨(some 2), none, .mov (.c (.string ⟨#[]⟩))⟩,
  ⟨(some 3), none, .mov (.c (.int .i64 0))⟩] [0])
 (.seq (.seq (.reg [⟨(some 6), none, .mov (.t 0)⟩,
  ⟨(some 7), none, .nilck (.t 6)⟩,
  ⟨(some 8), none, .faddr 1 (.t 7)⟩,
  ⟨(some 9), none, .load none (.t 8)⟩,
  ⟨(some 10), none, .bin .neq (.t 9) (.c (.int .i64 0))⟩] [0, 10])
 (.cond (.t 10)
  (.seq (.regd [⟨⟨(some 11), none, .mov (.t 0)⟩, false, 0⟩,
   ⟨⟨(some 12), none, .nilck (.t 11)⟩, false, 0⟩,
   ⟨⟨(some 13), none, .faddr 1 (.t 12)⟩, false, 0⟩,
   ⟨⟨(some 14), none, .load none (.t 13)⟩, false, 0⟩,
   ⟨⟨(some 2), none, .mov (.c (.string ⟨#[]⟩))⟩, false, 0⟩,
   ⟨⟨(some 3), none, .mov (.t 14)⟩, false, 0⟩] [2, 3])
  .ret)
  .skip))
 (.seq (.reg [⟨(some 15), none, .mov (.t 0)⟩,
  ⟨(some 16), none, .nilck (.t 15)⟩,
  ⟨(some 17), none, .faddr 0 (.t 16)⟩,
  ⟨(some 18), none, .load none (.t 17)⟩,
  ⟨(some 19), none, .lenL (.t 18)⟩,
  ⟨(some 20), none, .bin .add (.t 19) (.c (.int .i64 7))⟩,
  ⟨(some 21), none, .bin .quo (.t 20) (.c (.int .i64 8))⟩,
  ⟨(some 22), none, .mkS 1 [(.int .u8 0)] (.t 21) (.t 21)⟩,
  ⟨(some 4), none, .mov (.t 22)⟩] [0, 4])
 (.seq (.seq (.reg [⟨(some 5), none, .mov (.c (.int .i64 0))⟩] [0, 4, 5])
 (.block 0 (.loop (.seq (.seq (.reg [⟨(some 23), none, .mov (.t 5)⟩,
    ⟨(some 24), none, .mov (.t 0)⟩,
    ⟨(some 25), none, .nilck (.t 24)⟩,
    ⟨(some 26), none, .faddr 0 (.t 25)⟩,
    ⟨(some 27), none, .load none (.t 26)⟩,
    ⟨(some 28), none, .lenL (.t 27)⟩,
    ⟨(some 29), none, .bin .lss (.t 23) (.t 28)⟩] [0, 4, 5, 29])
   (.cond (.t 29)
    .skip
    (.exit 0)))
   (.seq (.block 1 (.regd [⟨⟨(some 32), none, .mov (.t 4)⟩, false, 0⟩,
     ⟨⟨(some 33), none, .mov (.t 5)⟩, false, 0⟩,
     ⟨⟨(some 34), none, .bin .quo (.t 33) (.c (.int .i64 8))⟩, false, 0⟩,
     ⟨⟨(some 35), none, .mov (.t 4)⟩, false, 0⟩,
     ⟨⟨(some 36), none, .mov (.t 5)⟩, false, 0⟩,
     ⟨⟨(some 37), none, .bin .quo (.t 36) (.c (.int .i64 8))⟩, false, 0⟩,
     ⟨⟨(some 38), none, .iaddrS 1 (.t 35) (.t 37)⟩, false, 0⟩,
     ⟨⟨(some 39), none, .load none (.t 38)⟩, false, 0⟩,
     ⟨⟨(some 40), none, .mov (.t 0)⟩, false, 0⟩,
     ⟨⟨(some 41), none, .nilck (.t 40)⟩, false, 0⟩,
     ⟨⟨(some 42), none, .faddr 0 (.t 41)⟩, false, 0⟩,
     ⟨⟨(some 43), none, .load none (.t 42)⟩, false, 0⟩,
     ⟨⟨(some 44), none, .mov (.t 5)⟩, false, 0⟩,
     ⟨⟨(some 45), none, .iaddrS 1 (.t 43) (.t 44)⟩, false, 0⟩,
     ⟨⟨(some 46), none, .load none (.t 45)⟩, false, 0⟩,
     ⟨⟨(some 47), none, .mov (.t 5)⟩, false, 0⟩,
     ⟨⟨(some 48), none, .bin .rem (.t 47) (.c (.int .i64 8))⟩, false, 0⟩,
     ⟨⟨(some 49), none, .bin .sub (.c (.int .i64 7)) (.t 48)⟩, false, 0⟩,
     ⟨⟨(some 50), none, .bin .shl (.t 46) (.t 49)⟩, false, 0⟩,
     ⟨⟨(some 51), none, .bin .or (.t 39) (.t 50)⟩, false, 0⟩,
     ⟨⟨(some 52), none, .iaddrS 1 (.t 32) (.t 34)⟩, false, 0⟩,
     ⟨⟨none, none, .store 1 (.t 52) (.t 51)⟩, true, 0⟩] [0, 4, 5]))
   (.reg [⟨(some 30), none, .mov (.t 5)⟩,
    ⟨(some 31), none, .bin .add (.t 30) (.c (.int .i64 1))⟩,
    ⟨(some 5), none, .mov (.t 31)⟩] [0, 4, 5]))))))
 (.seq (.reg [⟨(some 53), none, .mov (.t 4)⟩,
  ⟨(some 54), none, .cvBS (.t 53)⟩,
  ⟨(some 2), none, .mov (.t 54)⟩,
  ⟨(some 3), none, .mov (.c (.int .i64 0))⟩] [2, 3])
 .ret))))),
 [.tmp 2, .tmp 3], false, false⟩

/-- (*hopmesh/bitio.Writer).Bits -/
def F19 : AFn := ⟨7,
 (.seq (.reg [⟨(some 2), none, .mov (.c (.int .i64 0))⟩] [0])
 (.seq (.reg [⟨(some 3), none, .mov (.t 0)⟩,
  ⟨(some 4), none, .nilck (.t 3)⟩,
  ⟨(some 5), none, .faddr 1 (.t 4)⟩,
  ⟨(some 6), none, .load none (.t 5)⟩,
  ⟨(some 2), none, .mov (.t 6)⟩] [2])
 .ret)),
 [.tmp 2], false, false⟩

/-- (*hopmesh/hopmeshref02.Writer).Bits -/
def F20 : AFn := ⟨8,
 (.seq (.reg [⟨(some 2), none, .mov (.c (.int .i64 0))⟩] [0])
 (.seq (.reg [⟨(some 3), none, .mov (.t 0)⟩,
  ⟨(some 4), none, .nilck (.t 3)⟩,
  ⟨(some 5), none, .faddr 0 (.t 4)⟩,
  ⟨(some 6), none, .load none (.t 5)⟩,
  ⟨(some 7), none, .lenL (.t 6)⟩,
  ⟨(some 2), none, .mov (.t 7)⟩] [2])
 .ret)),
 [.tmp 2], false, false⟩

/-- hopmesh/bitio.NewReader -/
def F21 : AFn := ⟨11,
 (.seq (.reg [⟨(some 2), none, .mov (.c (.pointer none))⟩] [0])
 (.seq (.seq (.reg [⟨(some 3), none, .mov (.t 0)⟩,
  ⟨(some 4), none, .lenS (.t 3)⟩,
  ⟨(some 5), none, .bin .gtr (.t 4) (.c (.int .i64 65536))⟩] [0, 5])
 (.cond (.t 5)
  (.seq (.reg [⟨(some 6), none, .build [(.string ⟨#[]⟩), (.int .i64 0), (.int .i64 0)] [(2, 1, (.c (.int .i64 8)))]⟩,
   ⟨(some 7), none, .box (.t 6)⟩,
   ⟨(some 2), none, .mov (.t 7)⟩] [2])
  .ret)
  .skip))
 (.seq (.reg [⟨(some 8), none, .mov (.t 0)⟩,
  ⟨(some 9), none, .build [(.string ⟨#[]⟩), (.int .i64 0), (.int .i64 0)] [(0, 1, (.t 8))]⟩,
  ⟨(some 10), none, .box (.t 9)⟩,
  ⟨(some 2), none, .mov (.t 10)⟩] [2])
 .ret))),
 [.tmp 2], false, false⟩

/-- hopmesh/hopmeshlaw02.read -/
def F22 : AFn := ⟨40,
 (.seq (.reg [⟨(some 3), none, .box (.t 1)⟩,
  ⟨(some 4), none, .new [(.int .i64 0), (.int .i64 0), (.int .i64 0), (.string ⟨#[]⟩)]⟩] [0, 3, 4])
 (.seq (.seq (.reg [⟨(some 5), none, .faddr 0 (.t 3)⟩,
  ⟨(some 6), none, .load none (.t 5)⟩] [0, 3, 4, 6])
 (.block 0 (.seq (.reg [⟨(some 8), none, .bin .eql (.t 6) (.c (.int .i64 0))⟩,
   ⟨(some 7), none, .mov (.t 8)⟩] [0, 3, 4, 6, 7])
  (.cond (.t 7)
   (.reg [⟨(some 9), none, .mov (.t 0)⟩,
    ⟨(some 10), none, .faddr 1 (.t 3)⟩,
    ⟨(some 11), none, .load none (.t 10)⟩,
    ⟨(some 12), none, .call 40 [(.t 9), (.t 11)]⟩,
    ⟨(some 13), none, .faddr 2 (.t 3)⟩,
    ⟨none, none, .store 1 (.t 13) (.t 12)⟩,
    ⟨(some 14), none, .faddr 3 (.t 3)⟩,
    ⟨none, none, .store 1 (.t 14) (.c (.string ⟨#[]⟩))⟩] [3, 4])
   (.seq (.reg [⟨(some 16), none, .bin .eql (.t 6) (.c (.int .i64 1))⟩,
    ⟨(some 15), none, .mov (.t 16)⟩] [0, 3, 4, 6, 15])
   (.cond (.t 15)
    (.reg [⟨(some 17), none, .mov (.t 0)⟩,
     ⟨(some 18), none, .faddr 1 (.t 3)⟩,
     ⟨(some 19), none, .load none (.t 18)⟩,
     ⟨(some 20), none, .call 27 [(.t 17), (.t 19)]⟩,
     ⟨(some 21), none, .faddr 2 (.t 3)⟩,
     ⟨none, none, .store 1 (.t 21) (.t 20)⟩,
     ⟨(some 22), none, .faddr 3 (.t 3)⟩,
     ⟨none, none, .store 1 (.t 22) (.c (.string ⟨#[]⟩))⟩] [3, 4])
    (.seq (.reg [⟨(some 24), none, .bin .eql (.t 6) (.c (.int .i64 2))⟩,
     ⟨(some 23), none, .mov (.t 24)⟩] [0, 3, 4, 6, 23])
    (.cond (.t 23)
     (.seq (.reg [⟨(some 25), none, .faddr 2 (.t 3)⟩,
      ⟨none, none, .store 1 (.t 25) (.c (.int .i64 0))⟩,
      ⟨(some 26), none, .faddr 3 (.t 3)⟩,
      ⟨none, none, .store 1 (.t 26) (.c (.string ⟨#[]⟩))⟩,
      ⟨(some 27), none, .faddr 1 (.t 3)⟩,
      ⟨none, none, .store 1 (.t 27) (.c (.int .i64 0))⟩] [0, 3, 4])
     (.seq (.reg [⟨(some 28), none, .mov (.t 0)⟩,
      ⟨(some 29), none, .call 41 [(.t 28)]⟩] [3, 4, 29])
     (.cond (.t 29)
      (.reg [⟨(some 30), none, .faddr 2 (.t 3)⟩,
       ⟨none, none, .store 1 (.t 30) (.c (.int .i64 1))⟩] [3, 4])
      .skip)))
     (.seq (.reg [⟨(some 32), none, .bin .eql (.t 6) (.c (.int .i64 3))⟩,
      ⟨(some 31), none, .mov (.t 32)⟩] [0, 3, 4, 31])
     (.cond (.t 31)
      (.reg [⟨(some 33), none, .mov (.t 0)⟩,
       ⟨(some 34), none, .faddr 1 (.t 3)⟩,
       ⟨(some 35), none, .load none (.t 34)⟩,
       ⟨(some 36), none, .call 42 [(.t 33), (.t 35)]⟩,
       ⟨(some 37), none, .faddr 2 (.t 3)⟩,
       ⟨none, none, .store 1 (.t 37) (.c (.int .i64 0))⟩,
       ⟨(some 38), none, .faddr 3 (.t 3)⟩,
       ⟨none, none, .store 1 (.t 38) (.t 36)⟩] [3, 4])
      .skip))))))))))
 (.seq (.reg [⟨(some 39), none, .load (some 4) (.t 3)⟩,
  ⟨none, none, .store 4 (.t 4) (.t 39)⟩] [4])
 .ret))),
 [.cell 4 (some 4)], false, false⟩

/-- (*hopmesh/bitio.Reader).Close -/
def F23 : AFn := ⟨21,
 (.seq (.reg [⟨(some 1), none, .box (.t 0)⟩,
  ⟨(some 2), none, .mov (.c (.int .i64 0))⟩] [1])
 (.seq (.seq (.reg [⟨(some 4), none, .load none (.t 1)⟩,
  ⟨(some 5), none, .nilck (.t 4)⟩,
  ⟨(some 6), none, .faddr 2 (.t 5)⟩,
  ⟨(some 7), none, .load none (.t 6)⟩,
  ⟨(some 8), none, .bin .neq (.t 7) (.c (.int .i64 0))⟩] [1, 8])
 (.cond (.t 8)
  (.seq (.reg [⟨(some 9), none, .load none (.t 1)⟩,
   ⟨(some 10), none, .nilck (.t 9)⟩,
   ⟨(some 11), none, .faddr 2 (.t 10)⟩,
   ⟨(some 12), none, .load none (.t 11)⟩,
   ⟨(some 2), none, .mov (.t 12)⟩] [2])
  .ret)
  .skip))
 (.seq (.reg [⟨(some 13), none, .mkF 47 [] [(.t 1)]⟩,
  ⟨(some 3), none, .mov (.t 13)⟩] [1, 3])
 (.seq (.seq (.reg [⟨(some 14), none, .load none (.t 1)⟩,
  ⟨(some 15), none, .call 33 [(.t 14)]⟩,
  ⟨(some 16), none, .bin .geq (.t 15) (.c (.int .i64 8))⟩,
  ⟨(some 17), none, .mov (.t 16)⟩,
  ⟨(some 18), some (17, false), .mov (.t 3)⟩,
  ⟨(some 19), some (17, false), .callv (.t 18) []⟩,
  ⟨(some 20), none, .pick (.t 17) (.c (.bool true)) (.t 19)⟩] [20])
 (.cond (.t 20)
  (.seq (.reg [⟨(some 2), none, .mov (.c (.int .i64 10))⟩] [2])
  .ret)
  .skip))
 (.seq (.reg [⟨(some 2), none, .mov (.c (.int .i64 0))⟩] [2])
 .ret))))),
 [.tmp 2], false, false⟩

/-- hopmesh/bitio.Width -/
def F24 : AFn := ⟨9,
 (.seq (.reg [⟨(some 2), none, .mov (.c (.int .i64 0))⟩] [0])
 (.seq (.seq (.reg [⟨(some 3), none, .mov (.t 0)⟩,
  ⟨(some 4), none, .bin .lss (.t 3) (.c (.int .i64 0))⟩] [0, 4])
 (.cond (.t 4)
  (.seq (.reg [⟨(some 2), none, .mov (.c (.int .i64 0))⟩] [2])
  .ret)
  .skip))
 (.seq (.reg [⟨(some 5), none, .mov (.t 0)⟩,
  ⟨(some 6), none, .cvI .u64 (.t 5)⟩,
  ⟨(some 7), none, .call 49 [(.t 6)]⟩,
  ⟨(some 8), none, .maxI [(.c (.int .i64 1)), (.t 7)]⟩,
  ⟨(some 2), none, .mov (.t 8)⟩] [2])
 .ret))),
 [.tmp 2], true, true⟩

/-- (*hopmesh/bitio.Writer).Unsigned -/
def F25 : AFn := ⟨30,
 (.seq (.reg [⟨(some 7), none, .mov (.t 1)⟩,
  ⟨(some 8), none, .bin .geq (.t 7) (.c (.int .i64 1))⟩,
  ⟨(some 9), none, .mov (.t 8)⟩,
  ⟨(some 10), some (9, true), .mov (.t 1)⟩,
  ⟨(some 11), some (9, true), .bin .leq (.t 10) (.c (.int .i64 63))⟩,
  ⟨(some 12), none, .pick (.t 9) (.t 11) (.c (.bool false))⟩,
  ⟨(some 6), none, .mov (.t 12)⟩] [0, 1, 2, 6])
 (.reg [⟨(some 13), none, .mov (.t 0)⟩,
  ⟨(some 14), none, .mov (.t 6)⟩,
  ⟨(some 15), none, .mov (.t 6)⟩,
  ⟨(some 16), none, .mov (.t 15)⟩,
  ⟨(some 17), some (16, true), .mov (.t 2)⟩,
  ⟨(some 18), some (16, true), .bin .geq (.t 17) (.c (.int .i64 0))⟩,
  ⟨(some 19), none, .pick (.t 16) (.t 18) (.c (.bool false))⟩,
  ⟨(some 20), none, .mov (.t 19)⟩,
  ⟨(some 21), some (20, true), .mov (.t 2)⟩,
  ⟨(some 22), some (20, true), .cvI .u64 (.t 21)⟩,
  ⟨(some 23), some (20, true), .call 49 [(.t 22)]⟩,
  ⟨(some 24), some (20, true), .mov (.t 1)⟩,
  ⟨(some 25), some (20, true), .bin .leq (.t 23) (.t 24)⟩,
  ⟨(some 26), none, .pick (.t 20) (.t 25) (.c (.bool false))⟩,
  ⟨(some 27), none, .mov (.t 1)⟩,
  ⟨(some 28), none, .mov (.t 2)⟩,
  ⟨(some 29), none, .call 50 [(.t 13), (.t 14), (.t 26), (.t 27), (.t 28)]⟩] [])),
 [], false, false⟩

/-- (*hopmesh/bitio.Writer).Signed -/
def F26 : AFn := ⟨36,
 (.seq (.reg [⟨(some 7), none, .mov (.t 1)⟩,
  ⟨(some 8), none, .bin .geq (.t 7) (.c (.int .i64 2))⟩,
  ⟨(some 9), none, .mov (.t 8)⟩,
  ⟨(some 10), some (9, true), .mov (.t 1)⟩,
  ⟨(some 11), some (9, true), .bin .leq (.t 10) (.c (.int .i64 63))⟩,
  ⟨(some 12), none, .pick (.t 9) (.t 11) (.c (.bool false))⟩,
  ⟨(some 6), none, .mov (.t 12)⟩] [0, 1, 2, 6])
 (.reg [⟨(some 13), none, .mov (.t 0)⟩,
  ⟨(some 14), none, .mov (.t 6)⟩,
  ⟨(some 15), none, .mov (.t 6)⟩,
  ⟨(some 16), none, .mov (.t 15)⟩,
  ⟨(some 17), some (16, true), .mov (.t 2)⟩,
  ⟨(some 18), some (16, true), .mov (.t 1)⟩,
  ⟨(some 19), some (16, true), .maxI [(.t 18), (.c (.int .i64 1))]⟩,
  ⟨(some 20), some (16, true), .bin .sub (.t 19) (.c (.int .i64 1))⟩,
  ⟨(some 21), some (16, true), .bin .shl (.c (.int .i64 (-1))) (.t 20)⟩,
  ⟨(some 22), some (16, true), .bin .geq (.t 17) (.t 21)⟩,
  ⟨(some 23), none, .pick (.t 16) (.t 22) (.c (.bool false))⟩,
  ⟨(some 24), none, .mov (.t 23)⟩,
  ⟨(some 25), some (24, true), .mov (.t 2)⟩,
  ⟨(some 26), some (24, true), .mov (.t 1)⟩,
  ⟨(some 27), some (24, true), .maxI [(.t 26), (.c (.int .i64 1))]⟩,
  ⟨(some 28), some (24, true), .bin .sub (.t 27) (.c (.int .i64 1))⟩,
  ⟨(some 29), some (24, true), .bin .shl (.c (.int .i64 1)) (.t 28)⟩,
  ⟨(some 30), some (24, true), .bin .sub (.t 29) (.c (.int .i64 1))⟩,
  ⟨(some 31), some (24, true), .bin .leq (.t 25) (.t 30)⟩,
  ⟨(some 32), none, .pick (.t 24) (.t 31) (.c (.bool false))⟩,
  ⟨(some 33), none, .mov (.t 1)⟩,
  ⟨(some 34), none, .mov (.t 2)⟩,
  ⟨(some 35), none, .call 50 [(.t 13), (.t 14), (.t 32), (.t 33), (.t 34)]⟩] [])),
 [], false, false⟩

/-- (*hopmesh/bitio.Reader).Signed -/
def F27 : AFn := ⟨34,
 (.seq (.reg [⟨(some 4), none, .mov (.c (.int .i64 0))⟩] [0, 1])
 (.seq (.reg [⟨(some 6), none, .mov (.t 0)⟩,
  ⟨(some 7), none, .mov (.t 1)⟩,
  ⟨(some 8), none, .bin .geq (.t 7) (.c (.int .i64 2))⟩,
  ⟨(some 9), none, .mov (.t 8)⟩,
  ⟨(some 10), some (9, true), .mov (.t 1)⟩,
  ⟨(some 11), some (9, true), .bin .leq (.t 10) (.c (.int .i64 63))⟩,
  ⟨(some 12), none, .pick (.t 9) (.t 11) (.c (.bool false))⟩,
  ⟨(some 13), none, .mov (.t 1)⟩,
  ⟨(some 14), none, .call 51 [(.t 6), (.t 12), (.t 13)]⟩,
  ⟨(some 15), none, .cvI .i64 (.t 14)⟩,
  ⟨(some 5), none, .mov (.t 15)⟩] [0, 1, 5])
 (.seq (.seq (.reg [⟨(some 16), none, .mov (.t 0)⟩,
  ⟨(some 17), none, .nilck (.t 16)⟩,
  ⟨(some 18), none, .faddr 2 (.t 17)⟩,
  ⟨(some 19), none, .load none (.t 18)⟩,
  ⟨(some 20), none, .bin .eql (.t 19) (.c (.int .i64 0))⟩,
  ⟨(some 21), none, .mov (.t 20)⟩,
  ⟨(some 22), some (21, true), .mov (.t 5)⟩,
  ⟨(some 23), some (21, true), .mov (.t 1)⟩,
  ⟨(some 24), some (21, true), .bin .sub (.t 23) (.c (.int .i64 1))⟩,
  ⟨(some 25), some (21, true), .bin .shr (.t 22) (.t 24)⟩,
  ⟨(some 26), some (21, true), .bin .and (.t 25) (.c (.int .i64 1))⟩,
  ⟨(some 27), some (21, true), .bin .eql (.t 26) (.c (.int .i64 1))⟩,
  ⟨(some 28), none, .pick (.t 21) (.t 27) (.c (.bool false))⟩] [1, 5, 28])
 (.cond (.t 28)
  (.reg [⟨(some 29), none, .mov (.t 5)⟩,
   ⟨(some 30), none, .mov (.t 1)⟩,
   ⟨(some 31), none, .bin .shl (.c (.int .i64 1)) (.t 30)⟩,
   ⟨(some 32), none, .bin .sub (.t 29) (.t 31)⟩,
   ⟨(some 5), none, .mov (.t 32)⟩] [5])
  .skip))
 (.seq (.reg [⟨(some 33), none, .mov (.t 5)⟩,
  ⟨(some 4), none, .mov (.t 33)⟩] [4])
 .ret)))),
 [.tmp 4], false, false⟩

/-- hopmesh/hopmeshref02.NewReader -/
def F28 : AFn := ⟨11,
 (.seq (.reg [⟨(some 2), none, .mov (.c (.pointer none))⟩] [0])
 (.seq (.seq (.reg [⟨(some 3), none, .mov (.t 0)⟩,
  ⟨(some 4), none, .lenS (.t 3)⟩,
  ⟨(some 5), none, .bin .gtr (.t 4) (.c (.int .i64 65536))⟩] [0, 5])
 (.cond (.t 5)
  (.seq (.reg [⟨(some 6), none, .build [(.string ⟨#[]⟩), (.int .i64 0), (.int .i64 0)] [(2, 1, (.c (.int .i64 8)))]⟩,
   ⟨(some 7), none, .box (.t 6)⟩,
   ⟨(some 2), none, .mov (.t 7)⟩] [2])
  .ret)
  .skip))
 (.seq (.reg [⟨(some 8), none, .mov (.t 0)⟩,
  ⟨(some 9), none, .build [(.string ⟨#[]⟩), (.int .i64 0), (.int .i64 0)] [(0, 1, (.t 8))]⟩,
  ⟨(some 10), none, .box (.t 9)⟩,
  ⟨(some 2), none, .mov (.t 10)⟩] [2])
 .ret))),
 [.tmp 2], false, false⟩

/-- (*hopmesh/hopmeshref02.Reader).Unsigned -/
def F29 : AFn := ⟨23,
 (.seq (.reg [⟨(some 4), none, .mov (.c (.int .i64 0))⟩] [0, 1])
 (.seq (.seq (.reg [⟨(some 5), none, .mov (.t 0)⟩,
  ⟨(some 6), none, .nilck (.t 5)⟩,
  ⟨(some 7), none, .faddr 2 (.t 6)⟩,
  ⟨(some 8), none, .load none (.t 7)⟩,
  ⟨(some 9), none, .bin .eql (.t 8) (.c (.int .i64 0))⟩,
  ⟨(some 10), none, .mov (.t 9)⟩,
  ⟨(some 11), some (10, true), .mov (.t 1)⟩,
  ⟨(some 12), some (10, true), .bin .lss (.t 11) (.c (.int .i64 1))⟩,
  ⟨(some 13), some (10, true), .mov (.t 12)⟩,
  ⟨(some 14), some (13, false), .mov (.t 1)⟩,
  ⟨(some 15), some (13, false), .bin .gtr (.t 14) (.c (.int .i64 63))⟩,
  ⟨(some 16), some (10, true), .pick (.t 13) (.c (.bool true)) (.t 15)⟩,
  ⟨(some 17), none, .pick (.t 10) (.t 16) (.c (.bool false))⟩] [0, 1, 17])
 (.cond (.t 17)
  (.reg [⟨(some 18), none, .mov (.t 0)⟩,
   ⟨(some 19), none, .call 52 [(.t 18), (.c (.int .i64 1))]⟩] [0, 1])
  .skip))
 (.seq (.reg [⟨(some 20), none, .mov (.t 0)⟩,
  ⟨(some 21), none, .mov (.t 1)⟩,
  ⟨(some 22), none, .call 53 [(.t 20), (.t 21)]⟩,
  ⟨(some 4), none, .mov (.t 22)⟩] [4])
 .ret))),
 [.tmp 4], false, false⟩

/-- (*hopmesh/hopmeshref02.Reader).Signed -/
def F30 : AFn := ⟨46,
 (.seq (.reg [⟨(some 4), none, .mov (.c (.int .i64 0))⟩] [0, 1])
 (.seq (.seq (.reg [⟨(some 6), none, .mov (.t 0)⟩,
  ⟨(some 7), none, .nilck (.t 6)⟩,
  ⟨(some 8), none, .faddr 2 (.t 7)⟩,
  ⟨(some 9), none, .load none (.t 8)⟩,
  ⟨(some 10), none, .bin .eql (.t 9) (.c (.int .i64 0))⟩,
  ⟨(some 11), none, .mov (.t 10)⟩,
  ⟨(some 12), some (11, true), .mov (.t 1)⟩,
  ⟨(some 13), some (11, true), .bin .lss (.t 12) (.c (.int .i64 2))⟩,
  ⟨(some 14), some (11, true), .mov (.t 13)⟩,
  ⟨(some 15), some (14, false), .mov (.t 1)⟩,
  ⟨(some 16), some (14, false), .bin .gtr (.t 15) (.c (.int .i64 63))⟩,
  ⟨(some 17), some (11, true), .pick (.t 14) (.c (.bool true)) (.t 16)⟩,
  ⟨(some 18), none, .pick (.t 11) (.t 17) (.c (.bool false))⟩] [0, 1, 18])
 (.cond (.t 18)
  (.reg [⟨(some 19), none, .mov (.t 0)⟩,
   ⟨(some 20), none, .call 52 [(.t 19), (.c (.int .i64 1))]⟩] [0, 1])
  .skip))
 (.seq (.reg [⟨(some 21), none, .mov (.t 0)⟩,
  ⟨(some 22), none, .mov (.t 1)⟩,
  ⟨(some 23), none, .call 53 [(.t 21), (.t 22)]⟩,
  ⟨(some 5), none, .mov (.t 23)⟩] [0, 1, 5])
 (.seq (.seq (.reg [⟨(some 24), none, .mov (.t 0)⟩,
  ⟨(some 25), none, .nilck (.t 24)⟩,
  ⟨(some 26), none, .faddr 2 (.t 25)⟩,
  ⟨(some 27), none, .load none (.t 26)⟩,
  ⟨(some 28), none, .bin .eql (.t 27) (.c (.int .i64 0))⟩,
  ⟨(some 29), none, .mov (.t 28)⟩,
  ⟨(some 30), some (29, true), .mov (.t 5)⟩,
  ⟨(some 31), some (29, true), .mov (.t 1)⟩,
  ⟨(some 32), some (29, true), .bin .sub (.t 31) (.c (.int .i64 1))⟩,
  ⟨(some 33), some (29, true), .bin .shl (.c (.int .i64 1)) (.t 32)⟩,
  ⟨(some 34), some (29, true), .bin .geq (.t 30) (.t 33)⟩,
  ⟨(some 35), none, .pick (.t 29) (.t 34) (.c (.bool false))⟩] [1, 5, 35])
 (.cond (.t 35)
  (.regd [⟨⟨(some 36), none, .mov (.t 5)⟩, false, 0⟩,
   ⟨⟨(some 37), none, .mov (.t 1)⟩, false, 0⟩,
   ⟨⟨(some 38), none, .bin .sub (.t 37) (.c (.int .i64 1))⟩, false, 0⟩,
   ⟨⟨(some 39), none, .bin .shl (.c (.int .i64 1)) (.t 38)⟩, false, 0⟩,
   ⟨⟨(some 40), none, .bin .sub (.t 36) (.t 39)⟩, false, 0⟩,
   ⟨⟨(some 41), none, .mov (.t 1)⟩, false, 0⟩,
   ⟨⟨(some 42), none, .bin .sub (.t 41) (.c (.int .i64 1))⟩, false, 0⟩,
   ⟨⟨(some 43), none, .bin .shl (.c (.int .i64 1)) (.t 42)⟩, false, 0⟩,
   ⟨⟨(some 44), none, .bin .sub (.t 40) (.t 43)⟩, false, 0⟩,
   ⟨⟨(some 5), none, .mov (.t 44)⟩, false, 0⟩] [5])
  .skip))
 (.seq (.reg [⟨(some 45), none, .mov (.t 5)⟩,
  ⟨(some 4), none, .mov (.t 45)⟩] [4])
 .ret))))),
 [.tmp 4], false, false⟩

/-- (*hopmesh/hopmeshref02.Reader).Flag -/
def F31 : AFn := ⟨6,
 (.seq (.reg [⟨(some 2), none, .mov (.c (.bool false))⟩] [0])
 (.seq (.reg [⟨(some 3), none, .mov (.t 0)⟩,
  ⟨(some 4), none, .call 53 [(.t 3), (.c (.int .i64 1))]⟩,
  ⟨(some 5), none, .bin .eql (.t 4) (.c (.int .i64 1))⟩,
  ⟨(some 2), none, .mov (.t 5)⟩] [2])
 .ret)),
 [.tmp 2], false, false⟩

/-- (*hopmesh/hopmeshref02.Reader).Text -/
def F32 : AFn := ⟨73,
 (.seq (.reg [⟨(some 4), none, .mov (.c (.string ⟨#[]⟩))⟩] [0, 1])
 (.seq (.seq (.reg [⟨(some 8), none, .mov (.t 0)⟩,
  ⟨(some 9), none, .nilck (.t 8)⟩,
  ⟨(some 10), none, .faddr 2 (.t 9)⟩,
  ⟨(some 11), none, .load none (.t 10)⟩,
  ⟨(some 12), none, .bin .eql (.t 11) (.c (.int .i64 0))⟩,
  ⟨(some 13), none, .mov (.t 12)⟩,
  ⟨(some 14), some (13, true), .mov (.t 1)⟩,
  ⟨(some 15), some (13, true), .bin .lss (.t 14) (.c (.int .i64 1))⟩,
  ⟨(some 16), some (13, true), .mov (.t 15)⟩,
  ⟨(some 17), some (16, false), .mov (.t 1)⟩,
  ⟨(some 18), some (16, false), .bin .gtr (.t 17) (.c (.int .i64 4095))⟩,
  ⟨(some 19), some (13, true), .pick (.t 16) (.c (.bool true)) (.t 18)⟩,
  ⟨(some 20), none, .pick (.t 13) (.t 19) (.c (.bool false))⟩] [0, 1, 20])
 (.cond (.t 20)
  (.reg [⟨(some 21), none, .mov (.t 0)⟩,
   ⟨(some 22), none, .call 52 [(.t 21), (.c (.int .i64 1))]⟩] [0, 1])
  .skip))
 (.seq (.reg [⟨(some 23), none, .mov (.t 0)⟩,
  ⟨(some 24), none, .mov (.t 1)⟩,
  ⟨(some 25), none, .call 54 [(.t 24)]⟩,
  ⟨(some 26), none, .call 53 [(.t 23), (.t 25)]⟩,
  ⟨(some 5), none, .mov (.t 26)⟩] [0, 1, 5])
 (.seq (.seq (.reg [⟨(some 27), none, .mov (.t 0)⟩,
  ⟨(some 28), none, .nilck (.t 27)⟩,
  ⟨(some 29), none, .faddr 2 (.t 28)⟩,
  ⟨(some 30), none, .load none (.t 29)⟩,
  ⟨(some 31), none, .bin .eql (.t 30) (.c (.int .i64 0))⟩,
  ⟨(some 32), none, .mov (.t 31)⟩,
  ⟨(some 33), some (32, true), .mov (.t 5)⟩,
  ⟨(some 34), some (32, true), .mov (.t 1)⟩,
  ⟨(some 35), some (32, true), .bin .gtr (.t 33) (.t 34)⟩,
  ⟨(some 36), none, .pick (.t 32) (.t 35) (.c (.bool false))⟩] [0, 5, 36])
 (.cond (.t 36)
  (.reg [⟨(some 37), none, .mov (.t 0)⟩,
   ⟨(some 38), none, .call 52 [(.t 37), (.c (.int .i64 2))]⟩] [0, 5])
  .skip))
 (.seq (.seq (.reg [⟨(some 39), none, .mov (.t 0)⟩,
  ⟨(some 40), none, .nilck (.t 39)⟩,
  ⟨(some 41), none, .faddr 2 (.t 40)⟩,
  ⟨(some 42), none, .load none (.t 41)⟩,
  ⟨(some 43), none, .bin .eql (.t 42) (.c (.int .i64 0))⟩,
  ⟨(some 44), none, .mov (.t 43)⟩,
  ⟨(some 45), some (44, true), .mov (.t 0)⟩,
  ⟨(some 46), some (44, true), .call 34 [(.t 45)]⟩,
  ⟨(some 47), some (44, true), .mov (.t 5)⟩,
  ⟨(some 48), some (44, true), .bin .mul (.c (.int .i64 8)) (.t 47)⟩,
  ⟨(some 49), some (44, true), .bin .lss (.t 46) (.t 48)⟩,
  ⟨(some 50), none, .pick (.t 44) (.t 49) (.c (.bool false))⟩] [0, 5, 50])
 (.cond (.t 50)
  (.reg [⟨(some 51), none, .mov (.t 0)⟩,
   ⟨(some 52), none, .call 52 [(.t 51), (.c (.int .i64 9))]⟩] [0, 5])
  .skip))
 (.seq (.seq (.reg [⟨(some 53), none, .mov (.t 0)⟩,
  ⟨(some 54), none, .nilck (.t 53)⟩,
  ⟨(some 55), none, .faddr 2 (.t 54)⟩,
  ⟨(some 56), none, .load none (.t 55)⟩,
  ⟨(some 57), none, .bin .neq (.t 56) (.c (.int .i64 0))⟩] [0, 5, 57])
 (.cond (.t 57)
  (.seq (.reg [⟨(some 4), none, .mov (.c (.string ⟨#[]⟩))⟩] [4])
  .ret)
  .skip))
 (.seq (.reg [⟨(some 58), none, .mov (.t 5)⟩,
  ⟨(some 59), none, .mkS 1 [(.int .u8 0)] (.t 58) (.t 58)⟩,
  ⟨(some 6), none, .mov (.t 59)⟩] [0, 5, 6])
 (.seq (.seq (.reg [⟨(some 7), none, .mov (.c (.int .i64 0))⟩] [0, 5, 6, 7])
 (.block 0 (.loop (.seq (.seq (.reg [⟨(some 60), none, .mov (.t 7)⟩,
    ⟨(some 61), none, .mov (.t 5)⟩,
    ⟨(some 62), none, .bin .lss (.t 60) (.t 61)⟩] [0, 5, 6, 7, 62])
   (.cond (.t 62)
    .skip
    (.exit 0)))
   (.seq (.block 1 (.reg [⟨(some 65), none, .mov (.t 6)⟩,
     ⟨(some 66), none, .mov (.t 7)⟩,
     ⟨(some 67), none, .mov (.t 0)⟩,
     ⟨(some 68), none, .call 53 [(.t 67), (.c (.int .i64 8))]⟩,
     ⟨(some 69), none, .cvI .u8 (.t 68)⟩,
     ⟨(some 70), none, .iaddrS 1 (.t 65) (.t 66)⟩,
     ⟨none, none, .store 1 (.t 70) (.t 69)⟩] [0, 5, 6, 7]))
   (.reg [⟨(some 63), none, .mov (.t 7)⟩,
    ⟨(some 64), none, .bin .add (.t 63) (.c (.int .i64 1))⟩,
    ⟨(some 7), none, .mov (.t 64)⟩] [0, 5, 6, 7]))))))
 (.seq (.reg [⟨(some 71), none, .mov (.t 6)⟩,
  ⟨(some 72), none, .cvBS (.t 71)⟩,
  ⟨(some 4), none, .mov (.t 72)⟩] [4])
 .ret))))))))),
 [.tmp 4], false, false⟩

/-- (*hopmesh/bitio.Reader).Left -/
def F33 : AFn := ⟨19,
 (.seq (.reg [⟨(some 2), none, .mov (.c (.int .i64 0))⟩] [0])
 (.seq (.seq (.reg [⟨(some 3), none, .mov (.t 0)⟩,
  ⟨(some 4), none, .nilck (.t 3)⟩,
  ⟨(some 5), none, .faddr 2 (.t 4)⟩,
  ⟨(some 6), none, .load none (.t 5)⟩,
  ⟨(some 7), none, .bin .neq (.t 6) (.c (.int .i64 0))⟩] [0, 7])
 (.cond (.t 7)
  (.seq (.reg [⟨(some 2), none, .mov (.c (.int .i64 0))⟩] [2])
  .ret)
  .skip))
 (.seq (.regd [⟨⟨(some 8), none, .mov (.t 0)⟩, false, 0⟩,
  ⟨⟨(some 9), none, .nilck (.t 8)⟩, false, 0⟩,
  ⟨⟨(some 10), none, .faddr 0 (.t 9)⟩, false, 0⟩,
  ⟨⟨(some 11), none, .load none (.t 10)⟩, false, 0⟩,
  ⟨⟨(some 12), none, .lenS (.t 11)⟩, false, 0⟩,
  ⟨⟨(some 13), none, .bin .mul (.c (.int .i64 8)) (.t 12)⟩, false, 0⟩,
  ⟨⟨(some 14), none, .mov (.t 0)⟩, false, 0⟩,
  ⟨⟨(some 15), none, .nilck (.t 14)⟩, false, 0⟩,
  ⟨⟨(some 16), none, .faddr 1 (.t 15)⟩, false, 0⟩,
  ⟨⟨(some 17), none, .load none (.t 16)⟩, false, 0⟩,
  ⟨⟨(some 18), none, .bin .sub (.t 13) (.t 17)⟩, false, 0⟩,
  ⟨⟨(some 2), none, .mov (.t 18)⟩, false, 0⟩] [2])
 .ret))),
 [.tmp 2], false, false⟩

/-- (*hopmesh/hopmeshref02.Reader).Left -/
def F34 : AFn := ⟨14,
 (.seq (.reg [⟨(some 2), none, .mov (.c (.int .i64 0))⟩] [0])
 (.seq (.regd [⟨⟨(some 3), none, .mov (.t 0)⟩, false, 0⟩,
  ⟨⟨(some 4), none, .nilck (.t 3)⟩, false, 0⟩,
  ⟨⟨(some 5), none, .faddr 0 (.t 4)⟩, false, 0⟩,
  ⟨⟨(some 6), none, .load none (.t 5)⟩, false, 0⟩,
  ⟨⟨(some 7), none, .lenS (.t 6)⟩, false, 0⟩,
  ⟨⟨(some 8), none, .bin .mul (.c (.int .i64 8)) (.t 7)⟩, false, 0⟩,
  ⟨⟨(some 9), none, .mov (.t 0)⟩, false, 0⟩,
  ⟨⟨(some 10), none, .nilck (.t 9)⟩, false, 0⟩,
  ⟨⟨(some 11), none, .faddr 1 (.t 10)⟩, false, 0⟩,
  ⟨⟨(some 12), none, .load none (.t 11)⟩, false, 0⟩,
  ⟨⟨(some 13), none, .bin .sub (.t 8) (.t 12)⟩, false, 0⟩,
  ⟨⟨(some 2), none, .mov (.t 13)⟩, false, 0⟩] [2])
 .ret)),
 [.tmp 2], false, false⟩

/-- (*hopmesh/bitio.Reader).Err -/
def F35 : AFn := ⟨7,
 (.seq (.reg [⟨(some 2), none, .mov (.c (.int .i64 0))⟩] [0])
 (.seq (.reg [⟨(some 3), none, .mov (.t 0)⟩,
  ⟨(some 4), none, .nilck (.t 3)⟩,
  ⟨(some 5), none, .faddr 2 (.t 4)⟩,
  ⟨(some 6), none, .load none (.t 5)⟩,
  ⟨(some 2), none, .mov (.t 6)⟩] [2])
 .ret)),
 [.tmp 2], false, false⟩

/-- (*hopmesh/hopmeshref02.Reader).Err -/
def F36 : AFn := ⟨7,
 (.seq (.reg [⟨(some 2), none, .mov (.c (.int .i64 0))⟩] [0])
 (.seq (.reg [⟨(some 3), none, .mov (.t 0)⟩,
  ⟨(some 4), none, .nilck (.t 3)⟩,
  ⟨(some 5), none, .faddr 2 (.t 4)⟩,
  ⟨(some 6), none, .load none (.t 5)⟩,
  ⟨(some 2), none, .mov (.t 6)⟩] [2])
 .ret)),
 [.tmp 2], false, false⟩

/-- (*hopmesh/hopmeshref02.Reader).Close -/
def F37 : AFn := ⟨44,
 (.seq (.reg [⟨(some 2), none, .mov (.c (.int .i64 0))⟩] [0])
 (.seq (.seq (.reg [⟨(some 4), none, .mov (.t 0)⟩,
  ⟨(some 5), none, .nilck (.t 4)⟩,
  ⟨(some 6), none, .faddr 2 (.t 5)⟩,
  ⟨(some 7), none, .load none (.t 6)⟩,
  ⟨(some 8), none, .bin .neq (.t 7) (.c (.int .i64 0))⟩] [0, 8])
 (.cond (.t 8)
  (.seq (.reg [⟨(some 9), none, .mov (.t 0)⟩,
   ⟨(some 10), none, .nilck (.t 9)⟩,
   ⟨(some 11), none, .faddr 2 (.t 10)⟩,
   ⟨(some 12), none, .load none (.t 11)⟩,
   ⟨(some 2), none, .mov (.t 12)⟩] [2])
  .ret)
  .skip))
 (.seq (.seq (.reg [⟨(some 13), none, .mov (.t 0)⟩,
  ⟨(some 14), none, .call 34 [(.t 13)]⟩,
  ⟨(some 15), none, .bin .geq (.t 14) (.c (.int .i64 8))⟩] [0, 15])
 (.cond (.t 15)
  (.seq (.reg [⟨(some 2), none, .mov (.c (.int .i64 10))⟩] [2])
  .ret)
  .skip))
 (.seq (.seq (.reg [⟨(some 16), none, .mov (.t 0)⟩,
  ⟨(some 17), none, .nilck (.t 16)⟩,
  ⟨(some 18), none, .faddr 1 (.t 17)⟩,
  ⟨(some 19), none, .load none (.t 18)⟩,
  ⟨(some 3), none, .mov (.t 19)⟩] [0, 3])
 (.block 0 (.loop (.seq (.seq (.reg [⟨(some 20), none, .mov (.t 3)⟩,
    ⟨(some 21), none, .mov (.t 0)⟩,
    ⟨(some 22), none, .nilck (.t 21)⟩,
    ⟨(some 23), none, .faddr 0 (.t 22)⟩,
    ⟨(some 24), none, .load none (.t 23)⟩,
    ⟨(some 25), none, .lenS (.t 24)⟩,
    ⟨(some 26), none, .bin .mul (.c (.int .i64 8)) (.t 25)⟩,
    ⟨(some 27), none, .bin .lss (.t 20) (.t 26)⟩] [0, 3, 27])
   (.cond (.t 27)
    .skip
    (.exit 0)))
   (.seq (.block 1 (.seq (.reg [⟨(some 30), none, .mov (.t 0)⟩,
     ⟨(some 31), none, .nilck (.t 30)⟩,
     ⟨(some 32), none, .faddr 0 (.t 31)⟩,
     ⟨(some 33), none, .load none (.t 32)⟩,
     ⟨(some 34), none, .mov (.t 3)⟩,
     ⟨(some 35), none, .bin .quo (.t 34) (.c (.int .i64 8))⟩,
     ⟨(some 36), none, .idxS (.t 33) (.t 35)⟩,
     ⟨(some 37), none, .cvI .i64 (.t 36)⟩,
     ⟨(some 38), none, .mov (.t 3)⟩,
     ⟨(some 39), none, .bin .rem (.t 38) (.c (.int .i64 8))⟩,
     ⟨(some 40), none, .bin .sub (.c (.int .i64 7)) (.t 39)⟩,
     ⟨(some 41), none, .bin .shr (.t 37) (.t 40)⟩,
     ⟨(some 42), none, .bin .and (.t 41) (.c (.int .i64 1))⟩,
     ⟨(some 43), none, .bin .eql (.t 42) (.c (.int .i64 1))⟩] [0, 3, 43])
    (.cond (.t 43)
     (.seq (.reg [⟨(some 2), none, .mov (.c (.int .i64 10))⟩] [2])
     .ret)
     .skip)))
   (.reg [⟨(some 28), none, .mov (.t 3)⟩,
    ⟨(some 29), none, .bin .add (.t 28) (.c (.int .i64 1))⟩,
    ⟨(some 3), none, .mov (.t 29)⟩] [0, 3]))))))
 (.seq (.reg [⟨(some 2), none, .mov (.c (.int .i64 0))⟩] [2])
 .ret))))),
 [.tmp 2], false, false⟩

/-- (*hopmesh/bitio.Writer).Text -/
def F38 : AFn := ⟨61,
 (.block 0 (.seq (.reg [⟨(some 27), none, .mov (.t 0)⟩,
   ⟨(some 28), none, .nilck (.t 27)⟩,
   ⟨(some 29), none, .faddr 2 (.t 28)⟩,
   ⟨(some 30), none, .load none (.t 29)⟩,
   ⟨(some 31), none, .bin .neq (.t 30) (.c (.int .i64 0))⟩,
   ⟨(some 26), none, .mov (.t 31)⟩] [0, 1, 2, 26])
  (.cond (.t 26)
   .skip
   (.seq (.reg [⟨(some 33), none, .mov (.t 1)⟩,
    ⟨(some 34), none, .call 55 [(.t 33)]⟩,
    ⟨(some 35), none, .un .not (.t 34)⟩,
    ⟨(some 32), none, .mov (.t 35)⟩] [0, 1, 2, 32])
   (.cond (.t 32)
    (.reg [⟨(some 36), none, .mov (.t 0)⟩,
     ⟨(some 37), none, .nilck (.t 36)⟩,
     ⟨(some 38), none, .faddr 2 (.t 37)⟩,
     ⟨none, none, .store 1 (.t 38) (.c (.int .i64 1))⟩] [])
    (.seq (.regd [⟨⟨(some 40), none, .mov (.t 2)⟩, false, 0⟩,
     ⟨⟨(some 41), none, .lenS (.t 40)⟩, false, 0⟩,
     ⟨⟨(some 42), none, .mov (.t 1)⟩, false, 0⟩,
     ⟨⟨(some 43), none, .bin .gtr (.t 41) (.t 42)⟩, false, 0⟩,
     ⟨⟨(some 44), none, .mov (.t 43)⟩, false, 0⟩,
     ⟨⟨(some 45), some (44, false), .mov (.t 0)⟩, false, 0⟩,
     ⟨⟨(some 46), some (44, false), .nilck (.t 45)⟩, false, 0⟩,
     ⟨⟨(some 47), some (44, false), .faddr 1 (.t 46)⟩, false, 0⟩,
     ⟨⟨(some 49), some (44, false), .mov (.t 1)⟩, false, 0⟩,
     ⟨⟨(some 50), some (44, false), .call 24 [(.t 49)]⟩, true, 0⟩,
     ⟨⟨(some 48), some (44, false), .load none (.t 47)⟩, false, 1⟩,
     ⟨⟨(some 51), some (44, false), .bin .add (.t 48) (.t 50)⟩, false, 0⟩,
     ⟨⟨(some 52), some (44, false), .mov (.t 2)⟩, false, 0⟩,
     ⟨⟨(some 53), some (44, false), .lenS (.t 52)⟩, false, 0⟩,
     ⟨⟨(some 54), some (44, false), .bin .mul (.c (.int .i64 8)) (.t 53)⟩, false, 0⟩,
     ⟨⟨(some 55), some (44, false), .bin .add (.t 51) (.t 54)⟩, false, 0⟩,
     ⟨⟨(some 56), some (44, false), .bin .gtr (.t 55) (.c (.int .i64 524288))⟩, false, 0⟩,
     ⟨⟨(some 57), none, .pick (.t 44) (.c (.bool true)) (.t 56)⟩, false, 0⟩,
     ⟨⟨(some 39), none, .mov (.t 57)⟩, false, 0⟩] [0, 1, 2, 39])
    (.cond (.t 39)
     (.reg [⟨(some 58), none, .mov (.t 0)⟩,
      ⟨(some 59), none, .nilck (.t 58)⟩,
      ⟨(some 60), none, .faddr 2 (.t 59)⟩,
      ⟨none, none, .store 1 (.t 60) (.c (.int .i64 8))⟩] [])
     (.seq (.reg [⟨(some 7), none, .mov (.t 0)⟩,
      ⟨(some 8), none, .mov (.t 1)⟩,
      ⟨(some 9), none, .call 24 [(.t 8)]⟩,
      ⟨(some 10), none, .mov (.t 2)⟩,
      ⟨(some 11), none, .lenS (.t 10)⟩,
      ⟨(some 12), none, .cvI .u64 (.t 11)⟩,
      ⟨(some 13), none, .call 56 [(.t 7), (.t 9), (.t 12)]⟩] [0, 2])
     (.seq (.reg [⟨(some 14), none, .mov (.t 2)⟩,
      ⟨(some 15), none, .lenS (.t 14)⟩,
      ⟨(some 16), none, .mov (.c (.int .i64 0))⟩] [0, 2, 15, 16])
     (.block 1 (.loop (.seq (.reg [⟨(some 17), none, .bin .lss (.t 16) (.t 15)⟩] [0, 2, 15, 16, 17])
       (.seq (.cond (.t 17)
        .skip
        (.exit 1))
       (.seq (.block 2 (.seq (.reg [⟨(some 18), none, .mov (.t 16)⟩,
         ⟨(some 6), none, .mov (.t 18)⟩] [0, 2, 6, 15, 16])
        (.reg [⟨(some 19), none, .mov (.t 0)⟩,
         ⟨(some 20), none, .mov (.t 2)⟩,
         ⟨(some 21), none, .mov (.t 6)⟩,
         ⟨(some 22), none, .idxS (.t 20) (.t 21)⟩,
         ⟨(some 23), none, .cvI .u64 (.t 22)⟩,
         ⟨(some 24), none, .call 56 [(.t 19), (.c (.int .i64 8)), (.t 23)]⟩] [0, 2, 15, 16])))
       (.reg [⟨(some 25), none, .bin .add (.t 16) (.c (.int .i64 1))⟩,
        ⟨(some 16), none, .mov (.t 25)⟩] [0, 2, 15, 16]))))))))))))))),
 [], false, false⟩

/-- (*hopmesh/bitio.Writer).Flag -/
def F39 : AFn := ⟨9,
 (.seq (.reg [⟨(some 4), none, .mov (.c (.int .i64 0))⟩] [0, 1, 4])
 (.seq (.seq (.reg [⟨(some 5), none, .mov (.t 1)⟩] [0, 4, 5])
 (.cond (.t 5)
  (.reg [⟨(some 4), none, .mov (.c (.int .i64 1))⟩] [0, 4])
  .skip))
 (.reg [⟨(some 6), none, .mov (.t 0)⟩,
  ⟨(some 7), none, .mov (.t 4)⟩,
  ⟨(some 8), none, .call 50 [(.t 6), (.c (.bool true)), (.c (.bool true)), (.c (.int .i64 1)), (.t 7)]⟩] []))),
 [], false, false⟩

/-- (*hopmesh/bitio.Reader).Unsigned -/
def F40 : AFn := ⟨15,
 (.seq (.reg [⟨(some 4), none, .mov (.c (.int .i64 0))⟩] [0, 1])
 (.seq (.reg [⟨(some 5), none, .mov (.t 0)⟩,
  ⟨(some 6), none, .mov (.t 1)⟩,
  ⟨(some 7), none, .bin .geq (.t 6) (.c (.int .i64 1))⟩,
  ⟨(some 8), none, .mov (.t 7)⟩,
  ⟨(some 9), some (8, true), .mov (.t 1)⟩,
  ⟨(some 10), some (8, true), .bin .leq (.t 9) (.c (.int .i64 63))⟩,
  ⟨(some 11), none, .pick (.t 8) (.t 10) (.c (.bool false))⟩,
  ⟨(some 12), none, .mov (.t 1)⟩,
  ⟨(some 13), none, .call 51 [(.t 5), (.t 11), (.t 12)]⟩,
  ⟨(some 14), none, .cvI .i64 (.t 13)⟩,
  ⟨(some 4), none, .mov (.t 14)⟩] [4])
 .ret)),
 [.tmp 4], false, false⟩

/-- (*hopmesh/bitio.Reader).Flag -/
def F41 : AFn := ⟨6,
 (.seq (.reg [⟨(some 2), none, .mov (.c (.bool false))⟩] [0])
 (.seq (.reg [⟨(some 3), none, .mov (.t 0)⟩,
  ⟨(some 4), none, .call 51 [(.t 3), (.c (.bool true)), (.c (.int .i64 1))]⟩,
  ⟨(some 5), none, .bin .eql (.t 4) (.c (.int .u64 1))⟩,
  ⟨(some 2), none, .mov (.t 5)⟩] [2])
 .ret)),
 [.tmp 2], false, false⟩

/-- (*hopmesh/bitio.Reader).Text -/
def F42 : AFn := ⟨54,
 (.seq (.reg [⟨(some 4), none, .mov (.c (.string ⟨#[]⟩))⟩] [0, 1])
 (.seq (.reg [⟨(some 9), none, .mov (.t 0)⟩,
  ⟨(some 10), none, .mov (.t 1)⟩,
  ⟨(some 11), none, .call 55 [(.t 10)]⟩,
  ⟨(some 12), none, .mov (.t 1)⟩,
  ⟨(some 13), none, .call 24 [(.t 12)]⟩,
  ⟨(some 14), none, .call 51 [(.t 9), (.t 11), (.t 13)]⟩,
  ⟨(some 15), none, .cvI .i64 (.t 14)⟩,
  ⟨(some 5), none, .mov (.t 15)⟩] [0, 1, 5])
 (.seq (.block 0 (.seq (.reg [⟨(some 17), none, .mov (.t 0)⟩,
   ⟨(some 18), none, .nilck (.t 17)⟩,
   ⟨(some 19), none, .faddr 2 (.t 18)⟩,
   ⟨(some 20), none, .load none (.t 19)⟩,
   ⟨(some 21), none, .bin .neq (.t 20) (.c (.int .i64 0))⟩,
   ⟨(some 16), none, .mov (.t 21)⟩] [0, 1, 5, 16])
  (.cond (.t 16)
   (.seq (.reg [⟨(some 4), none, .mov (.c (.string ⟨#[]⟩))⟩] [4])
   .ret)
   (.seq (.reg [⟨(some 23), none, .mov (.t 5)⟩,
    ⟨(some 24), none, .mov (.t 1)⟩,
    ⟨(some 25), none, .bin .gtr (.t 23) (.t 24)⟩,
    ⟨(some 22), none, .mov (.t 25)⟩] [0, 5, 22])
   (.cond (.t 22)
    (.seq (.reg [⟨(some 26), none, .mov (.t 0)⟩,
     ⟨(some 27), none, .call 57 [(.t 26), (.c (.int .i64 2))]⟩] [])
    (.seq (.reg [⟨(some 4), none, .mov (.c (.string ⟨#[]⟩))⟩] [4])
    .ret))
    (.seq (.reg [⟨(some 29), none, .mov (.t 5)⟩,
     ⟨(some 30), none, .bin .mul (.c (.int .i64 8)) (.t 29)⟩,
     ⟨(some 31), none, .mov (.t 0)⟩,
     ⟨(some 32), none, .call 33 [(.t 31)]⟩,
     ⟨(some 33), none, .bin .gtr (.t 30) (.t 32)⟩,
     ⟨(some 28), none, .mov (.t 33)⟩] [0, 5, 28])
    (.cond (.t 28)
     (.seq (.reg [⟨(some 34), none, .mov (.t 0)⟩,
      ⟨(some 35), none, .call 57 [(.t 34), (.c (.int .i64 9))]⟩] [])
     (.seq (.reg [⟨(some 4), none, .mov (.c (.string ⟨#[]⟩))⟩] [4])
     .ret))
     .skip)))))))
 (.seq (.reg [⟨(some 36), none, .mov (.t 0)⟩,
  ⟨(some 37), none, .mkF 48 [(.t 36)] []⟩,
  ⟨(some 6), none, .mov (.t 37)⟩] [5, 6])
 (.seq (.reg [⟨(some 38), none, .mov (.t 5)⟩,
  ⟨(some 39), none, .mkS 1 [(.int .u8 0)] (.t 38) (.t 38)⟩,
  ⟨(some 7), none, .mov (.t 39)⟩] [6, 7])
 (.seq (.seq (.reg [⟨(some 40), none, .mov (.t 7)⟩,
  ⟨(some 41), none, .lenL (.t 40)⟩,
  ⟨(some 42), none, .mov (.c (.int .i64 0))⟩] [6, 7, 41, 42])
 (.block 1 (.loop (.seq (.reg [⟨(some 43), none, .bin .lss (.t 42) (.t 41)⟩] [6, 7, 41, 42, 43])
   (.seq (.cond (.t 43)
    .skip
    (.exit 1))
   (.seq (.block 2 (.seq (.reg [⟨(some 44), none, .mov (.t 42)⟩,
     ⟨(some 8), none, .mov (.t 44)⟩] [6, 7, 8, 41, 42])
    (.reg [⟨(some 45), none, .mov (.t 7)⟩,
     ⟨(some 46), none, .mov (.t 8)⟩,
     ⟨(some 47), none, .mov (.t 6)⟩,
     ⟨(some 48), none, .callv (.t 47) [(.c (.int .i64 8))]⟩,
     ⟨(some 49), none, .cvI .u8 (.t 48)⟩,
     ⟨(some 50), none, .iaddrS 1 (.t 45) (.t 46)⟩,
     ⟨none, none, .store 1 (.t 50) (.t 49)⟩] [6, 7, 41, 42])))
   (.reg [⟨(some 51), none, .bin .add (.t 42) (.c (.int .i64 1))⟩,
    ⟨(some 42), none, .mov (.t 51)⟩] [6, 7, 41, 42])))))))
 (.seq (.reg [⟨(some 52), none, .mov (.t 7)⟩,
  ⟨(some 53), none, .cvBS (.t 52)⟩,
  ⟨(some 4), none, .mov (.t 53)⟩] [4])
 .ret))))))),
 [.tmp 4], false, false⟩

/-- (*hopmesh/hopmeshref02.Writer).Unsigned -/
def F43 : AFn := ⟨42,
 (.seq (.seq (.reg [⟨(some 6), none, .mov (.t 0)⟩,
  ⟨(some 7), none, .nilck (.t 6)⟩,
  ⟨(some 8), none, .faddr 1 (.t 7)⟩,
  ⟨(some 9), none, .load none (.t 8)⟩,
  ⟨(some 10), none, .bin .neq (.t 9) (.c (.int .i64 0))⟩] [0, 1, 2, 10])
 (.cond (.t 10)
  .ret
  .skip))
 (.seq (.seq (.reg [⟨(some 11), none, .mov (.t 1)⟩,
  ⟨(some 12), none, .bin .lss (.t 11) (.c (.int .i64 1))⟩,
  ⟨(some 13), none, .mov (.t 12)⟩,
  ⟨(some 14), some (13, false), .mov (.t 1)⟩,
  ⟨(some 15), some (13, false), .bin .gtr (.t 14) (.c (.int .i64 63))⟩,
  ⟨(some 16), none, .pick (.t 13) (.c (.bool true)) (.t 15)⟩] [0, 1, 2, 16])
 (.cond (.t 16)
  (.seq (.reg [⟨(some 17), none, .mov (.t 0)⟩,
   ⟨(some 18), none, .nilck (.t 17)⟩,
   ⟨(some 19), none, .faddr 1 (.t 18)⟩,
   ⟨none, none, .store 1 (.t 19) (.c (.int .i64 1))⟩] [])
  .ret)
  .skip))
 (.seq (.seq (.reg [⟨(some 20), none, .mov (.t 2)⟩,
  ⟨(some 21), none, .bin .lss (.t 20) (.c (.int .i64 0))⟩,
  ⟨(some 22), none, .mov (.t 21)⟩,
  ⟨(some 23), some (22, false), .mov (.t 1)⟩,
  ⟨(some 24), some (22, false), .bin .lss (.t 23) (.c (.int .i64 63))⟩,
  ⟨(some 25), some (22, false), .mov (.t 24)⟩,
  ⟨(some 26), some (25, true), .mov (.t 2)⟩,
  ⟨(some 27), some (25, true), .mov (.t 1)⟩,
  ⟨(some 28), some (25, true), .bin .shl (.c (.int .i64 1)) (.t 27)⟩,
  ⟨(some 29), some (25, true), .bin .geq (.t 26) (.t 28)⟩,
  ⟨(some 30), some (22, false), .pick (.t 25) (.t 29) (.c (.bool false))⟩,
  ⟨(some 31), none, .pick (.t 22) (.c (.bool true)) (.t 30)⟩] [0, 1, 2, 31])
 (.cond (.t 31)
  (.seq (.reg [⟨(some 32), none, .mov (.t 0)⟩,
   ⟨(some 33), none, .nilck (.t 32)⟩,
   ⟨(some 34), none, .faddr 1 (.t 33)⟩,
   ⟨none, none, .store 1 (.t 34) (.c (.int .i64 2))⟩] [])
  .ret)
  .skip))
 (.seq (.reg [⟨(some 35), none, .mov (.t 0)⟩,
  ⟨(some 36), none, .mov (.t 1)⟩,
  ⟨(some 37), none, .call 58 [(.t 35), (.t 36)]⟩] [0, 1, 2, 37])
 (.cond (.t 37)
  (.reg [⟨(some 38), none, .mov (.t 0)⟩,
   ⟨(some 39), none, .mov (.t 1)⟩,
   ⟨(some 40), none, .mov (.t 2)⟩,
   ⟨(some 41), none, .call 59 [(.t 38), (.t 39), (.t 40)]⟩] [])
  .skip))))),
 [], false, false⟩

/-- (*hopmesh/hopmeshref02.Writer).Signed -/
def F44 : AFn := ⟨44,
 (.seq (.seq (.reg [⟨(some 6), none, .mov (.t 0)⟩,
  ⟨(some 7), none, .nilck (.t 6)⟩,
  ⟨(some 8), none, .faddr 1 (.t 7)⟩,
  ⟨(some 9), none, .load none (.t 8)⟩,
  ⟨(some 10), none, .bin .neq (.t 9) (.c (.int .i64 0))⟩] [0, 1, 2, 10])
 (.cond (.t 10)
  .ret
  .skip))
 (.seq (.seq (.reg [⟨(some 11), none, .mov (.t 1)⟩,
  ⟨(some 12), none, .bin .lss (.t 11) (.c (.int .i64 2))⟩,
  ⟨(some 13), none, .mov (.t 12)⟩,
  ⟨(some 14), some (13, false), .mov (.t 1)⟩,
  ⟨(some 15), some (13, false), .bin .gtr (.t 14) (.c (.int .i64 63))⟩,
  ⟨(some 16), none, .pick (.t 13) (.c (.bool true)) (.t 15)⟩] [0, 1, 2, 16])
 (.cond (.t 16)
  (.seq (.reg [⟨(some 17), none, .mov (.t 0)⟩,
   ⟨(some 18), none, .nilck (.t 17)⟩,
   ⟨(some 19), none, .faddr 1 (.t 18)⟩,
   ⟨none, none, .store 1 (.t 19) (.c (.int .i64 1))⟩] [])
  .ret)
  .skip))
 (.seq (.seq (.reg [⟨(some 20), none, .mov (.t 2)⟩,
  ⟨(some 21), none, .mov (.t 1)⟩,
  ⟨(some 22), none, .bin .sub (.t 21) (.c (.int .i64 1))⟩,
  ⟨(some 23), none, .bin .shl (.c (.int .i64 1)) (.t 22)⟩,
  ⟨(some 24), none, .un .neg (.t 23)⟩,
  ⟨(some 25), none, .bin .lss (.t 20) (.t 24)⟩,
  ⟨(some 26), none, .mov (.t 25)⟩,
  ⟨(some 27), some (26, false), .mov (.t 2)⟩,
  ⟨(some 28), some (26, false), .mov (.t 1)⟩,
  ⟨(some 29), some (26, false), .bin .sub (.t 28) (.c (.int .i64 1))⟩,
  ⟨(some 30), some (26, false), .bin .shl (.c (.int .i64 1)) (.t 29)⟩,
  ⟨(some 31), some (26, false), .bin .sub (.t 30) (.c (.int .i64 1))⟩,
  ⟨(some 32), some (26, false), .bin .gtr (.t 27) (.t 31)⟩,
  ⟨(some 33), none, .pick (.t 26) (.c (.bool true)) (.t 32)⟩] [0, 1, 2, 33])
 (.cond (.t 33)
  (.seq (.reg [⟨(some 34), none, .mov (.t 0)⟩,
   ⟨(some 35), none, .nilck (.t 34)⟩,
   ⟨(some 36), none, .faddr 1 (.t 35)⟩,
   ⟨none, none, .store 1 (.t 36) (.c (.int .i64 2))⟩] [])
  .ret)
  .skip))
 (.seq (.reg [⟨(some 37), none, .mov (.t 0)⟩,
  ⟨(some 38), none, .mov (.t 1)⟩,
  ⟨(some 39), none, .call 58 [(.t 37), (.t 38)]⟩] [0, 1, 2, 39])
 (.cond (.t 39)
  (.reg [⟨(some 40), none, .mov (.t 0)⟩,
   ⟨(some 41), none, .mov (.t 1)⟩,
   ⟨(some 42), none, .mov (.t 2)⟩,
   ⟨(some 43), none, .call 59 [(.t 40), (.t 41), (.t 42)]⟩] [])
  .skip))))),
 [], false, false⟩

/-- (*hopmesh/hopmeshref02.Writer).Flag -/
def F45 : AFn := ⟨26,
 (.seq (.seq (.reg [⟨(some 4), none, .mov (.t 0)⟩,
  ⟨(some 5), none, .call 58 [(.t 4), (.c (.int .i64 1))]⟩,
  ⟨(some 6), none, .un .not (.t 5)⟩] [0, 1, 6])
 (.cond (.t 6)
  .ret
  .skip))
 (.seq (.reg [⟨(some 7), none, .mov (.t 1)⟩] [0, 7])
 (.cond (.t 7)
  (.reg [⟨(some 8), none, .mov (.t 0)⟩,
   ⟨(some 9), none, .mov (.t 0)⟩,
   ⟨(some 10), none, .nilck (.t 9)⟩,
   ⟨(some 11), none, .faddr 0 (.t 10)⟩,
   ⟨(some 12), none, .load none (.t 11)⟩,
   ⟨(some 13), none, .buildS 1 1 [(.int .u8 0)] [(0, 1, (.c (.int .u8 1)))]⟩,
   ⟨(some 14), none, .app 1 1 (.t 12) (.t 13)⟩,
   ⟨(some 15), none, .nilck (.t 8)⟩,
   ⟨(some 16), none, .faddr 0 (.t 15)⟩,
   ⟨none, none, .store 1 (.t 16) (.t 14)⟩] [])
  (.reg [⟨(some 17), none, .mov (.t 0)⟩,
   ⟨(some 18), none, .mov (.t 0)⟩,
   ⟨(some 19), none, .nilck (.t 18)⟩,
   ⟨(some 20), none, .faddr 0 (.t 19)⟩,
   ⟨(some 21), none, .load none (.t 20)⟩,
   ⟨(some 22), none, .buildS 1 1 [(.int .u8 0)] [(0, 1, (.c (.int .u8 0)))]⟩,
   ⟨(some 23), none, .app 1 1 (.t 21) (.t 22)⟩,
   ⟨(some 24), none, .nilck (.t 17)⟩,
   ⟨(some 25), none, .faddr 0 (.t 24)⟩,
   ⟨none, none, .store 1 (.t 25) (.t 23)⟩] [])))),
 [], false, false⟩

/-- (*hopmesh/hopmeshref02.Writer).Text -/
def F46 : AFn := ⟨55,
 (.seq (.seq (.reg [⟨(some 7), none, .mov (.t 0)⟩,
  ⟨(some 8), none, .nilck (.t 7)⟩,
  ⟨(some 9), none, .faddr 1 (.t 8)⟩,
  ⟨(some 10), none, .load none (.t 9)⟩,
  ⟨(some 11), none, .bin .neq (.t 10) (.c (.int .i64 0))⟩] [0, 1, 2, 11])
 (.cond (.t 11)
  .ret
  .skip))
 (.seq (.seq (.reg [⟨(some 12), none, .mov (.t 1)⟩,
  ⟨(some 13), none, .bin .lss (.t 12) (.c (.int .i64 1))⟩,
  ⟨(some 14), none, .mov (.t 13)⟩,
  ⟨(some 15), some (14, false), .mov (.t 1)⟩,
  ⟨(some 16), some (14, false), .bin .gtr (.t 15) (.c (.int .i64 4095))⟩,
  ⟨(some 17), none, .pick (.t 14) (.c (.bool true)) (.t 16)⟩] [0, 1, 2, 17])
 (.cond (.t 17)
  (.seq (.reg [⟨(some 18), none, .mov (.t 0)⟩,
   ⟨(some 19), none, .nilck (.t 18)⟩,
   ⟨(some 20), none, .faddr 1 (.t 19)⟩,
   ⟨none, none, .store 1 (.t 20) (.c (.int .i64 1))⟩] [])
  .ret)
  .skip))
 (.seq (.seq (.reg [⟨(some 21), none, .mov (.t 2)⟩,
  ⟨(some 22), none, .lenS (.t 21)⟩,
  ⟨(some 23), none, .mov (.t 1)⟩,
  ⟨(some 24), none, .bin .gtr (.t 22) (.t 23)⟩] [0, 1, 2, 24])
 (.cond (.t 24)
  (.seq (.reg [⟨(some 25), none, .mov (.t 0)⟩,
   ⟨(some 26), none, .nilck (.t 25)⟩,
   ⟨(some 27), none, .faddr 1 (.t 26)⟩,
   ⟨none, none, .store 1 (.t 27) (.c (.int .i64 8))⟩] [])
  .ret)
  .skip))
 (.seq (.seq (.reg [⟨(some 28), none, .mov (.t 0)⟩,
  ⟨(some 29), none, .mov (.t 1)⟩,
  ⟨(some 30), none, .call 54 [(.t 29)]⟩,
  ⟨(some 31), none, .mov (.t 2)⟩,
  ⟨(some 32), none, .lenS (.t 31)⟩,
  ⟨(some 33), none, .bin .mul (.c (.int .i64 8)) (.t 32)⟩,
  ⟨(some 34), none, .bin .add (.t 30) (.t 33)⟩,
  ⟨(some 35), none, .call 58 [(.t 28), (.t 34)]⟩,
  ⟨(some 36), none, .un .not (.t 35)⟩] [0, 1, 2, 36])
 (.cond (.t 36)
  .ret
  .skip))
 (.seq (.reg [⟨(some 37), none, .mov (.t 0)⟩,
  ⟨(some 38), none, .mov (.t 1)⟩,
  ⟨(some 39), none, .call 54 [(.t 38)]⟩,
  ⟨(some 40), none, .mov (.t 2)⟩,
  ⟨(some 41), none, .lenS (.t 40)⟩,
  ⟨(some 42), none, .call 59 [(.t 37), (.t 39), (.t 41)]⟩] [0, 2])
 (.seq (.reg [⟨(some 6), none, .mov (.c (.int .i64 0))⟩] [0, 2, 6])
 (.block 0 (.loop (.seq (.seq (.reg [⟨(some 43), none, .mov (.t 6)⟩,
    ⟨(some 44), none, .mov (.t 2)⟩,
    ⟨(some 45), none, .lenS (.t 44)⟩,
    ⟨(some 46), none, .bin .lss (.t 43) (.t 45)⟩] [0, 2, 6, 46])
   (.cond (.t 46)
    .skip
    (.exit 0)))
   (.seq (.block 1 (.reg [⟨(some 49), none, .mov (.t 0)⟩,
     ⟨(some 50), none, .mov (.t 2)⟩,
     ⟨(some 51), none, .mov (.t 6)⟩,
     ⟨(some 52), none, .idxS (.t 50) (.t 51)⟩,
     ⟨(some 53), none, .cvI .i64 (.t 52)⟩,
     ⟨(some 54), none, .call 59 [(.t 49), (.c (.int .i64 8)), (.t 53)]⟩] [0, 2, 6]))
   (.reg [⟨(some 47), none, .mov (.t 6)⟩,
    ⟨(some 48), none, .bin .add (.t 47) (.c (.int .i64 1))⟩,
    ⟨(some 6), none, .mov (.t 48)⟩] [0, 2, 6]))))))))))),
 [], false, false⟩

/-- (*hopmesh/bitio.Reader).Close$1 -/
def F47 : AFn := ⟨10,
 (.seq (.reg [⟨(some 1), none, .mov (.c (.bool false))⟩] [0])
 (.seq (.reg [⟨(some 3), none, .load none (.t 0)⟩,
  ⟨(some 4), none, .nilck (.t 3)⟩,
  ⟨(some 5), none, .load (some 3) (.t 4)⟩,
  ⟨(some 2), none, .new [(.string ⟨#[]⟩), (.int .i64 0), (.int .i64 0)]⟩,
  ⟨none, none, .store 3 (.t 2) (.t 5)⟩] [0, 2])
 (.seq (.reg [⟨(some 6), none, .load none (.t 0)⟩,
  ⟨(some 7), none, .call 33 [(.t 6)]⟩,
  ⟨(some 8), none, .call 48 [(.t 2), (.t 7)]⟩,
  ⟨(some 9), none, .bin .neq (.t 8) (.c (.int .u64 0))⟩,
  ⟨(some 1), none, .mov (.t 9)⟩] [1])
 .ret))),
 [.tmp 1], false, false⟩

/-- (*hopmesh/bitio.Reader).get -/
def F48 : AFn := ⟨40,
 (.seq (.reg [⟨(some 4), none, .mov (.c (.int .u64 0))⟩] [0, 1])
 (.seq (.reg [⟨(some 5), none, .mov (.c (.int .u64 0))⟩] [0, 1, 5])
 (.seq (.seq (.reg [⟨(some 6), none, .mov (.t 1)⟩,
  ⟨(some 7), none, .mov (.c (.int .i64 0))⟩] [0, 5, 6, 7])
 (.block 0 (.loop (.seq (.reg [⟨(some 8), none, .bin .lss (.t 7) (.t 6)⟩] [0, 5, 6, 7, 8])
   (.seq (.cond (.t 8)
    .skip
    (.exit 0))
   (.seq (.block 1 (.seq (.regd [⟨⟨(some 9), none, .mov (.t 5)⟩, false, 0⟩,
     ⟨⟨(some 10), none, .bin .shl (.t 9) (.c (.int .u64 1))⟩, false, 0⟩,
     ⟨⟨(some 11), none, .mov (.t 0)⟩, false, 0⟩,
     ⟨⟨(some 12), none, .nilck (.t 11)⟩, false, 0⟩,
     ⟨⟨(some 13), none, .faddr 0 (.t 12)⟩, false, 0⟩,
     ⟨⟨(some 14), none, .load none (.t 13)⟩, false, 0⟩,
     ⟨⟨(some 15), none, .mov (.t 0)⟩, false, 0⟩,
     ⟨⟨(some 16), none, .nilck (.t 15)⟩, false, 0⟩,
     ⟨⟨(some 17), none, .faddr 1 (.t 16)⟩, false, 0⟩,
     ⟨⟨(some 18), none, .load none (.t 17)⟩, false, 0⟩,
     ⟨⟨(some 19), none, .bin .quo (.t 18) (.c (.int .i64 8))⟩, false, 0⟩,
     ⟨⟨(some 20), none, .idxS (.t 14) (.t 19)⟩, false, 0⟩,
     ⟨⟨(some 21), none, .mov (.t 0)⟩, false, 0⟩,
     ⟨⟨(some 22), none, .nilck (.t 21)⟩, false, 0⟩,
     ⟨⟨(some 23), none, .faddr 1 (.t 22)⟩, false, 0⟩,
     ⟨⟨(some 24), none, .load none (.t 23)⟩, false, 0⟩,
     ⟨⟨(some 25), none, .bin .rem (.t 24) (.c (.int .i64 8))⟩, false, 0⟩,
     ⟨⟨(some 26), none, .bin .sub (.c (.int .i64 7)) (.t 25)⟩, false, 0⟩,
     ⟨⟨(some 27), none, .bin .shr (.t 20) (.t 26)⟩, false, 0⟩,
     ⟨⟨(some 28), none, .bin .and (.t 27) (.c (.int .u8 1))⟩, false, 0⟩,
     ⟨⟨(some 29), none, .cvI .u64 (.t 28)⟩, false, 0⟩,
     ⟨⟨(some 30), none, .bin .or (.t 10) (.t 29)⟩, false, 0⟩,
     ⟨⟨(some 5), none, .mov (.t 30)⟩, false, 0⟩] [0, 5, 6, 7])
    (.reg [⟨(some 31), none, .mov (.t 0)⟩,
     ⟨(some 32), none, .nilck (.t 31)⟩,
     ⟨(some 33), none, .faddr 1 (.t 32)⟩,
     ⟨(some 34), none, .load none (.t 33)⟩,
     ⟨(some 35), none, .bin .add (.t 34) (.c (.int .i64 1))⟩,
     ⟨(some 36), none, .nilck (.t 31)⟩,
     ⟨(some 37), none, .faddr 1 (.t 36)⟩,
     ⟨none, none, .store 1 (.t 37) (.t 35)⟩] [0, 5, 6, 7])))
   (.reg [⟨(some 38), none, .bin .add (.t 7) (.c (.int .i64 1))⟩,
    ⟨(some 7), none, .mov (.t 38)⟩] [0, 5, 6, 7])))))))
 (.seq (.reg [⟨(some 39), none, .mov (.t 5)⟩,
  ⟨(some 4), none, .mov (.t 39)⟩] [4])
 .ret)))),
 [.tmp 4], false, false⟩

/-- math/bits.Len -/
def F49 : AFn := ⟨8,
 (.seq (.reg [⟨(some 2), none, .mov (.c (.int .i64 0))⟩] [0])
 (.seq (.cond (.c (.bool false))
  (.seq (.reg [⟨(some 3), none, .mov (.t 0)⟩,
   ⟨(some 4), none, .cvI .u32 (.t 3)⟩,
   ⟨(some 5), none, .call 60 [(.t 4)]⟩,
   ⟨(some 2), none, .mov (.t 5)⟩] [2])
  .ret)
  .skip)
 (.seq (.reg [⟨(some 6), none, .mov (.t 0)⟩,
  ⟨(some 7), none, .call 61 [(.t 6)]⟩,
  ⟨(some 2), none, .mov (.t 7)⟩] [2])
 .ret))),
 [.tmp 2], true, true⟩

/-- (*hopmesh/bitio.Writer).field -/
def F50 : AFn := ⟨44,
 (.block 0 (.seq (.reg [⟨(some 16), none, .mov (.t 0)⟩,
   ⟨(some 17), none, .nilck (.t 16)⟩,
   ⟨(some 18), none, .faddr 2 (.t 17)⟩,
   ⟨(some 19), none, .load none (.t 18)⟩,
   ⟨(some 20), none, .bin .neq (.t 19) (.c (.int .i64 0))⟩,
   ⟨(some 15), none, .mov (.t 20)⟩] [0, 1, 2, 3, 4, 15])
  (.cond (.t 15)
   .skip
   (.seq (.reg [⟨(some 22), none, .mov (.t 1)⟩,
    ⟨(some 23), none, .un .not (.t 22)⟩,
    ⟨(some 21), none, .mov (.t 23)⟩] [0, 2, 3, 4, 21])
   (.cond (.t 21)
    (.reg [⟨(some 24), none, .mov (.t 0)⟩,
     ⟨(some 25), none, .nilck (.t 24)⟩,
     ⟨(some 26), none, .faddr 2 (.t 25)⟩,
     ⟨none, none, .store 1 (.t 26) (.c (.int .i64 1))⟩] [])
    (.seq (.reg [⟨(some 28), none, .mov (.t 2)⟩,
     ⟨(some 29), none, .un .not (.t 28)⟩,
     ⟨(some 27), none, .mov (.t 29)⟩] [0, 3, 4, 27])
    (.cond (.t 27)
     (.reg [⟨(some 30), none, .mov (.t 0)⟩,
      ⟨(some 31), none, .nilck (.t 30)⟩,
      ⟨(some 32), none, .faddr 2 (.t 31)⟩,
      ⟨none, none, .store 1 (.t 32) (.c (.int .i64 2))⟩] [])
     (.seq (.reg [⟨(some 34), none, .mov (.t 0)⟩,
      ⟨(some 35), none, .nilck (.t 34)⟩,
      ⟨(some 36), none, .faddr 1 (.t 35)⟩,
      ⟨(some 37), none, .load none (.t 36)⟩,
      ⟨(some 38), none, .mov (.t 3)⟩,
      ⟨(some 39), none, .bin .add (.t 37) (.t 38)⟩,
      ⟨(some 40), none, .bin .gtr (.t 39) (.c (.int .i64 524288))⟩,
      ⟨(some 33), none, .mov (.t 40)⟩] [0, 3, 4, 33])
     (.cond (.t 33)
      (.reg [⟨(some 41), none, .mov (.t 0)⟩,
       ⟨(some 42), none, .nilck (.t 41)⟩,
       ⟨(some 43), none, .faddr 2 (.t 42)⟩,
       ⟨none, none, .store 1 (.t 43) (.c (.int .i64 8))⟩] [])
      (.reg [⟨(some 10), none, .mov (.t 0)⟩,
       ⟨(some 11), none, .mov (.t 3)⟩,
       ⟨(some 12), none, .mov (.t 4)⟩,
       ⟨(some 13), none, .cvI .u64 (.t 12)⟩,
       ⟨(some 14), none, .call 56 [(.t 10), (.t 11), (.t 13)]⟩] [])))))))))),
 [], false, false⟩

/-- (*hopmesh/bitio.Reader).field -/
def F51 : AFn := ⟨28,
 (.seq (.reg [⟨(some 6), none, .mov (.c (.int .u64 0))⟩] [0, 1, 2])
 (.seq (.block 0 (.seq (.reg [⟨(some 11), none, .mov (.t 0)⟩,
   ⟨(some 12), none, .nilck (.t 11)⟩,
   ⟨(some 13), none, .faddr 2 (.t 12)⟩,
   ⟨(some 14), none, .load none (.t 13)⟩,
   ⟨(some 15), none, .bin .neq (.t 14) (.c (.int .i64 0))⟩,
   ⟨(some 10), none, .mov (.t 15)⟩] [0, 1, 2, 10])
  (.cond (.t 10)
   .skip
   (.seq (.reg [⟨(some 17), none, .mov (.t 1)⟩,
    ⟨(some 18), none, .un .not (.t 17)⟩,
    ⟨(some 16), none, .mov (.t 18)⟩] [0, 2, 16])
   (.cond (.t 16)
    (.reg [⟨(some 19), none, .mov (.t 0)⟩,
     ⟨(some 20), none, .call 57 [(.t 19), (.c (.int .i64 1))]⟩] [])
    (.seq (.reg [⟨(some 22), none, .mov (.t 2)⟩,
     ⟨(some 23), none, .mov (.t 0)⟩,
     ⟨(some 24), none, .call 33 [(.t 23)]⟩,
     ⟨(some 25), none, .bin .gtr (.t 22) (.t 24)⟩,
     ⟨(some 21), none, .mov (.t 25)⟩] [0, 2, 21])
    (.cond (.t 21)
     (.reg [⟨(some 26), none, .mov (.t 0)⟩,
      ⟨(some 27), none, .call 57 [(.t 26), (.c (.int .i64 9))]⟩] [])
     (.seq (.reg [⟨(some 7), none, .mov (.t 0)⟩,
      ⟨(some 8), none, .mov (.t 2)⟩,
      ⟨(some 9), none, .call 48 [(.t 7), (.t 8)]⟩,
      ⟨(some 6), none, .mov (.t 9)⟩] [6])
     .ret))))))))
 (.seq (.reg [⟨(some 6), none, .mov (.c (.int .u64 0))⟩] [6])
 .ret))),
 [.tmp 6], false, false⟩

/-- (*hopmesh/hopmeshref02.Reader).fail -/
def F52 : AFn := ⟨14,
 (.seq (.reg [⟨(some 4), none, .mov (.t 0)⟩,
  ⟨(some 5), none, .mov (.t 1)⟩,
  ⟨(some 6), none, .nilck (.t 4)⟩,
  ⟨(some 7), none, .faddr 2 (.t 6)⟩,
  ⟨none, none, .store 1 (.t 7) (.t 5)⟩] [0])
 (.seq (.reg [⟨(some 8), none, .mov (.t 0)⟩,
  ⟨(some 9), none, .nilck (.t 8)⟩,
  ⟨(some 10), none, .faddr 0 (.t 9)⟩,
  ⟨none, none, .store 1 (.t 10) (.c (.string ⟨#[]⟩))⟩] [0])
 (.reg [⟨(some 11), none, .mov (.t 0)⟩,
  ⟨(some 12), none, .nilck (.t 11)⟩,
  ⟨(some 13), none, .faddr 1 (.t 12)⟩,
  ⟨none, none, .store 1 (.t 13) (.c (.int .i64 0))⟩] []))),
 [], false, false⟩

/-- (*hopmesh/hopmeshref02.Reader).get -/
def F53 : AFn := ⟨54,
 (.seq (.reg [⟨(some 4), none, .mov (.c (.int .i64 0))⟩] [0, 1])
 (.seq (.seq (.reg [⟨(some 7), none, .mov (.t 0)⟩,
  ⟨(some 8), none, .nilck (.t 7)⟩,
  ⟨(some 9), none, .faddr 2 (.t 8)⟩,
  ⟨(some 10), none, .load none (.t 9)⟩,
  ⟨(some 11), none, .bin .neq (.t 10) (.c (.int .i64 0))⟩] [0, 1, 11])
 (.cond (.t 11)
  (.seq (.reg [⟨(some 4), none, .mov (.c (.int .i64 0))⟩] [4])
  .ret)
  .skip))
 (.seq (.seq (.reg [⟨(some 12), none, .mov (.t 0)⟩,
  ⟨(some 13), none, .call 34 [(.t 12)]⟩,
  ⟨(some 14), none, .mov (.t 1)⟩,
  ⟨(some 15), none, .bin .lss (.t 13) (.t 14)⟩] [0, 1, 15])
 (.cond (.t 15)
  (.seq (.reg [⟨(some 16), none, .mov (.t 0)⟩,
   ⟨(some 17), none, .call 52 [(.t 16), (.c (.int .i64 9))]⟩] [])
  (.seq (.reg [⟨(some 4), none, .mov (.c (.int .i64 0))⟩] [4])
  .ret))
  .skip))
 (.seq (.reg [⟨(some 5), none, .mov (.c (.int .i64 0))⟩] [0, 1, 5])
 (.seq (.seq (.reg [⟨(some 6), none, .mov (.c (.int .i64 0))⟩] [0, 1, 5, 6])
 (.block 0 (.loop (.seq (.seq (.reg [⟨(some 18), none, .mov (.t 6)⟩,
    ⟨(some 19), none, .mov (.t 1)⟩,
    ⟨(some 20), none, .bin .lss (.t 18) (.t 19)⟩] [0, 1, 5, 6, 20])
   (.cond (.t 20)
    .skip
    (.exit 0)))
   (.seq (.block 1 (.seq (.regd [⟨⟨(some 23), none, .mov (.t 5)⟩, false, 0⟩,
     ⟨⟨(some 24), none, .bin .shl (.t 23) (.c (.int .u64 1))⟩, false, 0⟩,
     ⟨⟨(some 25), none, .mov (.t 0)⟩, false, 0⟩,
     ⟨⟨(some 26), none, .nilck (.t 25)⟩, false, 0⟩,
     ⟨⟨(some 27), none, .faddr 0 (.t 26)⟩, false, 0⟩,
     ⟨⟨(some 28), none, .load none (.t 27)⟩, false, 0⟩,
     ⟨⟨(some 29), none, .mov (.t 0)⟩, false, 0⟩,
     ⟨⟨(some 30), none, .nilck (.t 29)⟩, false, 0⟩,
     ⟨⟨(some 31), none, .faddr 1 (.t 30)⟩, false, 0⟩,
     ⟨⟨(some 32), none, .load none (.t 31)⟩, false, 0⟩,
     ⟨⟨(some 33), none, .bin .quo (.t 32) (.c (.int .i64 8))⟩, false, 0⟩,
     ⟨⟨(some 34), none, .idxS (.t 28) (.t 33)⟩, false, 0⟩,
     ⟨⟨(some 35), none, .cvI .i64 (.t 34)⟩, false, 0⟩,
     ⟨⟨(some 36), none, .mov (.t 0)⟩, false, 0⟩,
     ⟨⟨(some 37), none, .nilck (.t 36)⟩, false, 0⟩,
     ⟨⟨(some 38), none, .faddr 1 (.t 37)⟩, false, 0⟩,
     ⟨⟨(some 39), none, .load none (.t 38)⟩, false, 0⟩,
     ⟨⟨(some 40), none, .bin .rem (.t 39) (.c (.int .i64 8))⟩, false, 0⟩,
     ⟨⟨(some 41), none, .bin .sub (.c (.int .i64 7)) (.t 40)⟩, false, 0⟩,
     ⟨⟨(some 42), none, .bin .shr (.t 35) (.t 41)⟩, false, 0⟩,
     ⟨⟨(some 43), none, .bin .and (.t 42) (.c (.int .i64 1))⟩, false, 0⟩,
     ⟨⟨(some 44), none, .bin .or (.t 24) (.t 43)⟩, false, 0⟩,
     ⟨⟨(some 5), none, .mov (.t 44)⟩, false, 0⟩] [0, 1, 5, 6])
    (.reg [⟨(some 45), none, .mov (.t 0)⟩,
     ⟨(some 46), none, .mov (.t 0)⟩,
     ⟨(some 47), none, .nilck (.t 46)⟩,
     ⟨(some 48), none, .faddr 1 (.t 47)⟩,
     ⟨(some 49), none, .load none (.t 48)⟩,
     ⟨(some 50), none, .bin .add (.t 49) (.c (.int .i64 1))⟩,
     ⟨(some 51), none, .nilck (.t 45)⟩,
     ⟨(some 52), none, .faddr 1 (.t 51)⟩,
     ⟨none, none, .store 1 (.t 52) (.t 50)⟩] [0, 1, 5, 6])))
   (.reg [⟨(some 21), none, .mov (.t 6)⟩,
    ⟨(some 22), none, .bin .add (.t 21) (.c (.int .i64 1))⟩,
    ⟨(some 6), none, .mov (.t 22)⟩] [0, 1, 5, 6]))))))
 (.seq (.reg [⟨(some 53), none, .mov (.t 5)⟩,
  ⟨(some 4), none, .mov (.t 53)⟩] [4])
 .ret)))))),
 [.tmp 4], false, false⟩

/-- hopmesh/hopmeshref02.Width -/
def F54 : AFn := ⟨13,
 (.seq (.reg [⟨(some 2), none, .mov (.c (.int .i64 0))⟩] [0])
 (.seq (.seq (.reg [⟨(some 4), none, .mov (.t 0)⟩,
  ⟨(some 5), none, .bin .lss (.t 4) (.c (.int .i64 0))⟩] [0, 5])
 (.cond (.t 5)
  (.seq (.reg [⟨(some 2), none, .mov (.c (.int .i64 0))⟩] [2])
  .ret)
  .skip))
 (.seq (.reg [⟨(some 3), none, .mov (.c (.int .i64 1))⟩] [0, 3])
 (.seq (.block 0 (.loop (.seq (.seq (.reg [⟨(some 6), none, .mov (.t 0)⟩,
    ⟨(some 7), none, .bin .geq (.t 6) (.c (.int .i64 2))⟩] [0, 3, 7])
   (.cond (.t 7)
    .skip
    (.exit 0)))
   (.block 1 (.seq (.reg [⟨(some 8), none, .mov (.t 0)⟩,
     ⟨(some 9), none, .bin .quo (.t 8) (.c (.int .i64 2))⟩,
     ⟨(some 0), none, .mov (.t 9)⟩] [0, 3])
    (.reg [⟨(some 10), none, .mov (.t 3)⟩,
     ⟨(some 11), none, .bin .add (.t 10) (.c (.int .i64 1))⟩,
     ⟨(some 3), none, .mov (.t 11)⟩] [0, 3]))))))
 (.seq (.reg [⟨(some 12), none, .mov (.t 3)⟩,
  ⟨(some 2), none, .mov (.t 12)⟩] [2])
 .ret))))),
 [.tmp 2], true, true⟩

/-- hopmesh/bitio.limit -/
def F55 : AFn := ⟨9,
 (.seq (.reg [⟨(some 2), none, .mov (.c (.bool false))⟩] [0])
 (.seq (.reg [⟨(some 3), none, .mov (.t 0)⟩,
  ⟨(some 4), none, .bin .geq (.t 3) (.c (.int .i64 1))⟩,
  ⟨(some 5), none, .mov (.t 4)⟩,
  ⟨(some 6), some (5, true), .mov (.t 0)⟩,
  ⟨(some 7), some (5, true), .bin .leq (.t 6) (.c (.int .i64 4095))⟩,
  ⟨(some 8), none, .pick (.t 5) (.t 7) (.c (.bool false))⟩,
  ⟨(some 2), none, .mov (.t 8)⟩] [2])
 .ret)),
 [.tmp 2], true, true⟩

/-- (*hopmesh/bitio.Writer).put -/
def F56 : AFn := ⟨60,
 (.seq (.reg [⟨(some 7), none, .mov (.t 1)⟩,
  ⟨(some 8), none, .bin .sub (.t 7) (.c (.int .i64 1))⟩,
  ⟨(some 6), none, .mov (.t 8)⟩] [0, 2, 6])
 (.block 0 (.loop (.seq (.seq (.reg [⟨(some 9), none, .mov (.t 6)⟩,
    ⟨(some 10), none, .bin .geq (.t 9) (.c (.int .i64 0))⟩] [0, 2, 6, 10])
   (.cond (.t 10)
    .skip
    (.exit 0)))
   (.seq (.block 1 (.seq (.seq (.reg [⟨(some 13), none, .mov (.t 0)⟩,
     ⟨(some 14), none, .nilck (.t 13)⟩,
     ⟨(some 15), none, .faddr 1 (.t 14)⟩,
     ⟨(some 16), none, .load none (.t 15)⟩,
     ⟨(some 17), none, .bin .rem (.t 16) (.c (.int .i64 8))⟩,
     ⟨(some 18), none, .bin .eql (.t 17) (.c (.int .i64 0))⟩] [0, 2, 6, 18])
    (.cond (.t 18)
     (.reg [⟨(some 19), none, .mov (.t 0)⟩,
      ⟨(some 20), none, .mov (.t 0)⟩,
      ⟨(some 21), none, .nilck (.t 20)⟩,
      ⟨(some 22), none, .faddr 0 (.t 21)⟩,
      ⟨(some 23), none, .load none (.t 22)⟩,
      ⟨(some 24), none, .buildS 1 1 [(.int .u8 0)] [(0, 1, (.c (.int .u8 0)))]⟩,
      ⟨(some 25), none, .app 1 1 (.t 23) (.t 24)⟩,
      ⟨(some 26), none, .nilck (.t 19)⟩,
      ⟨(some 27), none, .faddr 0 (.t 26)⟩,
      ⟨none, none, .store 1 (.t 27) (.t 25)⟩] [0, 2, 6])
     .skip))
    (.seq (.regd [⟨⟨(some 28), none, .mov (.t 0)⟩, false, 0⟩,
     ⟨⟨(some 29), none, .nilck (.t 28)⟩, false, 0⟩,
     ⟨⟨(some 30), none, .faddr 0 (.t 29)⟩, false, 0⟩,
     ⟨⟨(some 31), none, .load none (.t 30)⟩, false, 0⟩,
     ⟨⟨(some 32), none, .mov (.t 0)⟩, false, 0⟩,
     ⟨⟨(some 33), none, .nilck (.t 32)⟩, false, 0⟩,
     ⟨⟨(some 34), none, .faddr 1 (.t 33)⟩, false, 0⟩,
     ⟨⟨(some 35), none, .load none (.t 34)⟩, false, 0⟩,
     ⟨⟨(some 36), none, .bin .quo (.t 35) (.c (.int .i64 8))⟩, false, 0⟩,
     ⟨⟨(some 37), none, .iaddrS 1 (.t 31) (.t 36)⟩, false, 0⟩,
     ⟨⟨(some 38), none, .load none (.t 37)⟩, false, 0⟩,
     ⟨⟨(some 39), none, .mov (.t 2)⟩, false, 0⟩,
     ⟨⟨(some 40), none, .mov (.t 6)⟩, false, 0⟩,
     ⟨⟨(some 41), none, .bin .shr (.t 39) (.t 40)⟩, false, 0⟩,
     ⟨⟨(some 42), none, .bin .and (.t 41) (.c (.int .u64 1))⟩, false, 0⟩,
     ⟨⟨(some 43), none, .cvI .u8 (.t 42)⟩, false, 0⟩,
     ⟨⟨(some 44), none, .mov (.t 0)⟩, false, 0⟩,
     ⟨⟨(some 45), none, .nilck (.t 44)⟩, false, 0⟩,
     ⟨⟨(some 46), none, .faddr 1 (.t 45)⟩, false, 0⟩,
     ⟨⟨(some 47), none, .load none (.t 46)⟩, false, 0⟩,
     ⟨⟨(some 48), none, .bin .rem (.t 47) (.c (.int .i64 8))⟩, false, 0⟩,
     ⟨⟨(some 49), none, .bin .sub (.c (.int .i64 7)) (.t 48)⟩, false, 0⟩,
     ⟨⟨(some 50), none, .bin .shl (.t 43) (.t 49)⟩, false, 0⟩,
     ⟨⟨(some 51), none, .bin .or (.t 38) (.t 50)⟩, false, 0⟩,
     ⟨⟨(some 52), none, .iaddrS 1 (.t 31) (.t 36)⟩, false, 0⟩,
     ⟨⟨none, none, .store 1 (.t 52) (.t 51)⟩, true, 0⟩] [0, 2, 6])
    (.reg [⟨(some 53), none, .mov (.t 0)⟩,
     ⟨(some 54), none, .nilck (.t 53)⟩,
     ⟨(some 55), none, .faddr 1 (.t 54)⟩,
     ⟨(some 56), none, .load none (.t 55)⟩,
     ⟨(some 57), none, .bin .add (.t 56) (.c (.int .i64 1))⟩,
     ⟨(some 58), none, .nilck (.t 53)⟩,
     ⟨(some 59), none, .faddr 1 (.t 58)⟩,
     ⟨none, none, .store 1 (.t 59) (.t 57)⟩] [0, 2, 6]))))
   (.reg [⟨(some 11), none, .mov (.t 6)⟩,
    ⟨(some 12), none, .bin .sub (.t 11) (.c (.int .i64 1))⟩,
    ⟨(some 6), none, .mov (.t 12)⟩] [0, 2, 6])))))),
 [], false, false⟩

/-- (*hopmesh/bitio.Reader).fail -/
def F57 : AFn := ⟨13,
 (.seq (.reg [⟨(some 4), none, .mov (.t 0)⟩,
  ⟨(some 5), none, .nilck (.t 4)⟩,
  ⟨(some 6), none, .faddr 2 (.t 5)⟩,
  ⟨(some 7), none, .load none (.t 6)⟩,
  ⟨(some 8), none, .bin .eql (.t 7) (.c (.int .i64 0))⟩] [0, 1, 8])
 (.cond (.t 8)
  (.reg [⟨(some 9), none, .mov (.t 0)⟩,
   ⟨(some 10), none, .mov (.t 1)⟩,
   ⟨(some 11), none, .nilck (.t 9)⟩,
   ⟨(some 12), none, .faddr 2 (.t 11)⟩,
   ⟨none, none, .store 1 (.t 12) (.t 10)⟩] [])
  .skip)),
 [], false, false⟩

/-- (*hopmesh/hopmeshref02.Writer).room -/
def F58 : AFn := ⟨28,
 (.seq (.reg [⟨(some 4), none, .mov (.c (.bool false))⟩] [0, 1])
 (.seq (.seq (.reg [⟨(some 5), none, .mov (.t 0)⟩,
  ⟨(some 6), none, .nilck (.t 5)⟩,
  ⟨(some 7), none, .faddr 1 (.t 6)⟩,
  ⟨(some 8), none, .load none (.t 7)⟩,
  ⟨(some 9), none, .bin .eql (.t 8) (.c (.int .i64 0))⟩,
  ⟨(some 10), none, .mov (.t 9)⟩,
  ⟨(some 11), some (10, true), .mov (.t 0)⟩,
  ⟨(some 12), some (10, true), .nilck (.t 11)⟩,
  ⟨(some 13), some (10, true), .faddr 0 (.t 12)⟩,
  ⟨(some 14), some (10, true), .load none (.t 13)⟩,
  ⟨(some 15), some (10, true), .lenL (.t 14)⟩,
  ⟨(some 16), some (10, true), .mov (.t 1)⟩,
  ⟨(some 17), some (10, true), .bin .add (.t 15) (.t 16)⟩,
  ⟨(some 18), some (10, true), .bin .gtr (.t 17) (.c (.int .i64 524288))⟩,
  ⟨(some 19), none, .pick (.t 10) (.t 18) (.c (.bool false))⟩] [0, 19])
 (.cond (.t 19)
  (.reg [⟨(some 20), none, .mov (.t 0)⟩,
   ⟨(some 21), none, .nilck (.t 20)⟩,
   ⟨(some 22), none, .faddr 1 (.t 21)⟩,
   ⟨none, none, .store 1 (.t 22) (.c (.int .i64 8))⟩] [0])
  .skip))
 (.seq (.reg [⟨(some 23), none, .mov (.t 0)⟩,
  ⟨(some 24), none, .nilck (.t 23)⟩,
  ⟨(some 25), none, .faddr 1 (.t 24)⟩,
  ⟨(some 26), none, .load none (.t 25)⟩,
  ⟨(some 27), none, .bin .eql (.t 26) (.c (.int .i64 0))⟩,
  ⟨(some 4), none, .mov (.t 27)⟩] [4])
 .ret))),
 [.tmp 4], false, false⟩

/-- (*hopmesh/hopmeshref02.Writer).put -/
def F59 : AFn := ⟨27,
 (.seq (.reg [⟨(some 7), none, .mov (.t 1)⟩,
  ⟨(some 8), none, .bin .sub (.t 7) (.c (.int .i64 1))⟩,
  ⟨(some 6), none, .mov (.t 8)⟩] [0, 2, 6])
 (.block 0 (.loop (.seq (.seq (.reg [⟨(some 9), none, .mov (.t 6)⟩,
    ⟨(some 10), none, .bin .geq (.t 9) (.c (.int .i64 0))⟩] [0, 2, 6, 10])
   (.cond (.t 10)
    .skip
    (.exit 0)))
   (.seq (.block 1 (.regd [⟨⟨(some 13), none, .mov (.t 0)⟩, false, 0⟩,
     ⟨⟨(some 14), none, .mov (.t 0)⟩, false, 0⟩,
     ⟨⟨(some 15), none, .nilck (.t 14)⟩, false, 0⟩,
     ⟨⟨(some 16), none, .faddr 0 (.t 15)⟩, false, 0⟩,
     ⟨⟨(some 18), none, .mov (.t 2)⟩, false, 0⟩,
     ⟨⟨(some 19), none, .mov (.t 6)⟩, false, 0⟩,
     ⟨⟨(some 20), none, .bin .shr (.t 18) (.t 19)⟩, false, 0⟩,
     ⟨⟨(some 21), none, .bin .and (.t 20) (.c (.int .i64 1))⟩, false, 0⟩,
     ⟨⟨(some 22), none, .cvI .u8 (.t 21)⟩, false, 0⟩,
     ⟨⟨(some 23), none, .buildS 1 1 [(.int .u8 0)] [(0, 1, (.t 22))]⟩, true, 0⟩,
     ⟨⟨(some 17), none, .load none (.t 16)⟩, false, 1⟩,
     ⟨⟨(some 24), none, .app 1 1 (.t 17) (.t 23)⟩, true, 0⟩,
     ⟨⟨(some 25), none, .nilck (.t 13)⟩, false, 0⟩,
     ⟨⟨(some 26), none, .faddr 0 (.t 25)⟩, false, 0⟩,
     ⟨⟨none, none, .store 1 (.t 26) (.t 24)⟩, true, 0⟩] [0, 2, 6]))
   (.reg [⟨(some 11), none, .mov (.t 6)⟩,
    ⟨(some 12), none, .bin .sub (.t 11) (.c (.int .i64 1))⟩,
    ⟨(some 6), none, .mov (.t 12)⟩] [0, 2, 6])))))),
 [], false, false⟩

/-- math/bits.Len32 -/
def F60 : AFn := ⟨19,
 (.seq (.reg [⟨(some 2), none, .mov (.c (.int .i64 0))⟩] [0, 2])
 (.seq (.seq (.reg [⟨(some 3), none, .mov (.t 0)⟩,
  ⟨(some 4), none, .bin .geq (.t 3) (.c (.int .u32 65536))⟩] [0, 2, 4])
 (.cond (.t 4)
  (.seq (.reg [⟨(some 5), none, .mov (.t 0)⟩,
   ⟨(some 6), none, .bin .shr (.t 5) (.c (.int .u64 16))⟩,
   ⟨(some 0), none, .mov (.t 6)⟩] [0])
  (.reg [⟨(some 2), none, .mov (.c (.int .i64 16))⟩] [0, 2]))
  .skip))
 (.seq (.seq (.reg [⟨(some 7), none, .mov (.t 0)⟩,
  ⟨(some 8), none, .bin .geq (.t 7) (.c (.int .u32 256))⟩] [0, 2, 8])
 (.cond (.t 8)
  (.seq (.reg [⟨(some 9), none, .mov (.t 0)⟩,
   ⟨(some 10), none, .bin .shr (.t 9) (.c (.int .u64 8))⟩,
   ⟨(some 0), none, .mov (.t 10)⟩] [0, 2])
  (.reg [⟨(some 11), none, .mov (.t 2)⟩,
   ⟨(some 12), none, .bin .add (.t 11) (.c (.int .i64 8))⟩,
   ⟨(some 2), none, .mov (.t 12)⟩] [0, 2]))
  .skip))
 (.seq (.reg [⟨(some 13), none, .mov (.t 2)⟩,
  ⟨(some 14), none, .mov (.t 0)⟩,
  ⟨(some 15), none, .cvI .u8 (.t 14)⟩,
  ⟨(some 16), none, .idxS (.c (.string Lit0)) (.t 15)⟩,
  ⟨(some 17), none, .cvI .i64 (.t 16)⟩,
  ⟨(some 18), none, .bin .add (.t 13) (.t 17)⟩,
  ⟨(some 2), none, .mov (.t 18)⟩] [2])
 .ret)))),
 [.tmp 2], true, true⟩

/-- math/bits.Len64 -/
def F61 : AFn := ⟨25,
 (.seq (.reg [⟨(some 2), none, .mov (.c (.int .i64 0))⟩] [0, 2])
 (.seq (.seq (.reg [⟨(some 3), none, .mov (.t 0)⟩,
  ⟨(some 4), none, .bin .geq (.t 3) (.c (.int .u64 4294967296))⟩] [0, 2, 4])
 (.cond (.t 4)
  (.seq (.reg [⟨(some 5), none, .mov (.t 0)⟩,
   ⟨(some 6), none, .bin .shr (.t 5) (.c (.int .u64 32))⟩,
   ⟨(some 0), none, .mov (.t 6)⟩] [0])
  (.reg [⟨(some 2), none, .mov (.c (.int .i64 32))⟩] [0, 2]))
  .skip))
 (.seq (.seq (.reg [⟨(some 7), none, .mov (.t 0)⟩,
  ⟨(some 8), none, .bin .geq (.t 7) (.c (.int .u64 65536))⟩] [0, 2, 8])
 (.cond (.t 8)
  (.seq (.reg [⟨(some 9), none, .mov (.t 0)⟩,
   ⟨(some 10), none, .bin .shr (.t 9) (.c (.int .u64 16))⟩,
   ⟨(some 0), none, .mov (.t 10)⟩] [0, 2])
  (.reg [⟨(some 11), none, .mov (.t 2)⟩,
   ⟨(some 12), none, .bin .add (.t 11) (.c (.int .i64 16))⟩,
   ⟨(some 2), none, .mov (.t 12)⟩] [0, 2]))
  .skip))
 (.seq (.seq (.reg [⟨(some 13), none, .mov (.t 0)⟩,
  ⟨(some 14), none, .bin .geq (.t 13) (.c (.int .u64 256))⟩] [0, 2, 14])
 (.cond (.t 14)
  (.seq (.reg [⟨(some 15), none, .mov (.t 0)⟩,
   ⟨(some 16), none, .bin .shr (.t 15) (.c (.int .u64 8))⟩,
   ⟨(some 0), none, .mov (.t 16)⟩] [0, 2])
  (.reg [⟨(some 17), none, .mov (.t 2)⟩,
   ⟨(some 18), none, .bin .add (.t 17) (.c (.int .i64 8))⟩,
   ⟨(some 2), none, .mov (.t 18)⟩] [0, 2]))
  .skip))
 (.seq (.reg [⟨(some 19), none, .mov (.t 2)⟩,
  ⟨(some 20), none, .mov (.t 0)⟩,
  ⟨(some 21), none, .cvI .u8 (.t 20)⟩,
  ⟨(some 22), none, .idxS (.c (.string Lit0)) (.t 21)⟩,
  ⟨(some 23), none, .cvI .i64 (.t 22)⟩,
  ⟨(some 24), none, .bin .add (.t 19) (.t 23)⟩,
  ⟨(some 2), none, .mov (.t 24)⟩] [2])
 .ret))))),
 [.tmp 2], true, true⟩


def tblL : List (Nat × AFn) := [(3, F3), (4, F4), (5, F5), (6, F6), (7, F7), (8, F8), (9, F9), (10, F10), (11, F11), (12, F12), (13, F13), (14, F14), (15, F15), (16, F16), (17, F17), (18, F18), (19, F19), (20, F20), (21, F21), (22, F22), (23, F23), (24, F24), (25, F25), (26, F26), (27, F27), (28, F28), (29, F29), (30, F30), (31, F31), (32, F32), (33, F33), (34, F34), (35, F35), (36, F36), (37, F37), (38, F38), (39, F39), (40, F40), (41, F41), (42, F42), (43, F43), (44, F44), (45, F45), (46, F46), (47, F47), (48, F48), (49, F49), (50, F50), (51, F51), (52, F52), (53, F53), (54, F54), (55, F55), (56, F56), (57, F57), (58, F58), (59, F59), (60, F60), (61, F61)]

def tbl (n : Nat) : Option AFn := look tblL n

end Go.Proofs.Ytlbhbjaimcinbaa.AI

/- How a function is reckoned through, as rewriting rules: each goes one step, and none looks behind what is next. -/
namespace Go.Proofs.Ytlbhbjaimcinbaa.AI
open Go

section
variable {tbl : Nat → Option AFn} {e e' : Env} {H H' : Heap} {Q : AExit → Env → Heap → Prop} {R : Env → Heap → Prop} {K : Value → Heap → Prop}

/-! What is next is laid behind names that the rules open one at a time. -/
def CSeq (tbl : Nat → Option AFn) (b : ACode) (Q : AExit → Env → Heap → Prop) : Env → Heap → Prop := fun e H => AW tbl b e H Q
theorem CSeq_ap {b : ACode} : CSeq tbl b Q e H = AW tbl b e H Q := rfl
theorem RW_seq {a b : ACode} : AW tbl (.seq a b) e H Q = AW tbl a e H (Then (CSeq tbl b Q) Q) := AW_seq
theorem RW_loop {a : ACode} : AW tbl (.loop a) e H Q = AW tbl a e H (Then (CSeq tbl (.loop a) Q) Q) := AW_loop
def CReg (live : List Nat) (Q : AExit → Env → Heap → Prop) : Env → Heap → Prop := fun e H => Q .normal (keep e live) H
theorem CReg_ap {live : List Nat} : CReg live Q e H = Q .normal (keep e live) H := rfl
theorem RW_reg {ops : List AOper} {live : List Nat} : AW tbl (.reg ops live) e H Q = AO tbl ops e H (CReg live Q) := AW_reg
theorem RW_regd {ops : List DOper} {live : List Nat} : AW tbl (.regd ops live) e H Q = AOD tbl ops [] e H (CReg live Q) := AW_regd
def COps (tbl : Nat → Option AFn) (d : Option Nat) (r : List AOper) (e : Env) (R : Env → Heap → Prop) : Value → Heap → Prop := fun v H => AO tbl r (putE e d v) H R
theorem COps_ap {d : Option Nat} {r : List AOper} {v : Value} : COps tbl d r e R v H = AO tbl r (putE e d v) H R := rfl
theorem RO_op {d : Option Nat} {op : AOp} {r : List AOper} : AO tbl (⟨d, none, op⟩ :: r) e H R = Op1 (dval (AC tbl) op e H) (COps tbl d r e R) := AO_op
theorem RO_t {d : Option Nat} {t : Nat} {op : AOp} {r : List AOper} (h : lk e t = some (.bool true)) : AO tbl (⟨d, some (t, true), op⟩ :: r) e H R = Op1 (dval (AC tbl) op e H) (COps tbl d r e R) := by rw [AO_guard h, if_pos rfl]; exact AO_op
theorem RO_f {d : Option Nat} {t : Nat} {op : AOp} {r : List AOper} (h : lk e t = some (.bool false)) : AO tbl (⟨d, some (t, true), op⟩ :: r) e H R = AO tbl r (putE e d undef) H R := by rw [AO_guard h, if_neg (by decide)]
theorem RO_nt {d : Option Nat} {t : Nat} {op : AOp} {r : List AOper} (h : lk e t = some (.bool true)) : AO tbl (⟨d, some (t, false), op⟩ :: r) e H R = AO tbl r (putE e d undef) H R := by rw [AO_guard h, if_neg (by decide)]
theorem RO_nf {d : Option Nat} {t : Nat} {op : AOp} {r : List AOper} (h : lk e t = some (.bool false)) : AO tbl (⟨d, some (t, false), op⟩ :: r) e H R = Op1 (dval (AC tbl) op e H) (COps tbl d r e R) := by rw [AO_guard h, if_pos rfl]; exact AO_op

/-- What follows an operation whose order is open. -/
def CDops (tbl : Nat → Option AFn) (d : Option Nat) (op : AOp) (eff : Bool) (back : Nat) (r : List DOper) (hist : List Heap) (e : Env) (H0 : Heap) (R : Env → Heap → Prop) : Value → Heap → Prop :=
  fun v H => okBack ⟨⟨d, none, op⟩, eff, back⟩ hist e H0 = true ∧ AOD tbl r (if eff then H0 :: hist else hist) (putE e d v) H R
theorem CDops_eff {d : Option Nat} {op : AOp} {r : List DOper} {hist : List Heap} {H0 : Heap} {v : Value} : CDops tbl d op true 0 r hist e H0 R v H = AOD tbl r (H0 :: hist) (putE e d v) H R := by
  simp [CDops, okBack]
theorem CDops_no {d : Option Nat} {op : AOp} {r : List DOper} {hist : List Heap} {H0 : Heap} {v : Value} : CDops tbl d op false 0 r hist e H0 R v H = AOD tbl r hist (putE e d v) H R := by
  simp [CDops, okBack]
theorem CDops_back {d : Option Nat} {op : AOp} {n : Nat} {r : List DOper} {hist : List Heap} {H0 : Heap} {v : Value} : CDops tbl d op false (n + 1) r hist e H0 R v H =
    ((match aop op e H0 with | some (v, _) => again op e v (hist.take (n + 1)) | none => false) = true ∧ AOD tbl r hist (putE e d v) H R) := by
  simp [CDops, okBack, want]
  intro _
  cases aop op e H0 <;> rfl
theorem RD_op {d : Option Nat} {op : AOp} {eff : Bool} {back : Nat} {r : List DOper} {hist : List Heap} : AOD tbl (⟨⟨d, none, op⟩, eff, back⟩ :: r) hist e H R = Op1 (dval (AC tbl) op e H) (CDops tbl d op eff back r hist e H R) := AOD_op
theorem RD_t {d : Option Nat} {t : Nat} {op : AOp} {eff : Bool} {back : Nat} {r : List DOper} {hist : List Heap} (h : lk e t = some (.bool true)) : AOD tbl (⟨⟨d, some (t, true), op⟩, eff, back⟩ :: r) hist e H R = Op1 (dval (AC tbl) op e H) (CDops tbl d op eff back r hist e H R) := by rw [AOD_guard h, if_pos rfl]; rfl
theorem RD_f {d : Option Nat} {t : Nat} {op : AOp} {back : Nat} {r : List DOper} {hist : List Heap} (h : lk e t = some (.bool false)) : AOD tbl (⟨⟨d, some (t, true), op⟩, false, back⟩ :: r) hist e H R = AOD tbl r hist (putE e d undef) H R := by rw [AOD_guard h, if_neg (by decide)]; rfl
theorem RD_nt {d : Option Nat} {t : Nat} {op : AOp} {back : Nat} {r : List DOper} {hist : List Heap} (h : lk e t = some (.bool true)) : AOD tbl (⟨⟨d, some (t, false), op⟩, false, back⟩ :: r) hist e H R = AOD tbl r hist (putE e d undef) H R := by rw [AOD_guard h, if_neg (by decide)]; rfl
theorem RD_fe {d : Option Nat} {t : Nat} {op : AOp} {back : Nat} {r : List DOper} {hist : List Heap} (h : lk e t = some (.bool false)) : AOD tbl (⟨⟨d, some (t, true), op⟩, true, back⟩ :: r) hist e H R = AOD tbl r (H :: hist) (putE e d undef) H R := by rw [AOD_guard h, if_neg (by decide)]; rfl
theorem RD_nte {d : Option Nat} {t : Nat} {op : AOp} {back : Nat} {r : List DOper} {hist : List Heap} (h : lk e t = some (.bool true)) : AOD tbl (⟨⟨d, some (t, false), op⟩, true, back⟩ :: r) hist e H R = AOD tbl r (H :: hist) (putE e d undef) H R := by rw [AOD_guard h, if_neg (by decide)]; rfl
theorem RD_nf {d : Option Nat} {t : Nat} {op : AOp} {eff : Bool} {back : Nat} {r : List DOper} {hist : List Heap} (h : lk e t = some (.bool false)) : AOD tbl (⟨⟨d, some (t, false), op⟩, eff, back⟩ :: r) hist e H R = Op1 (dval (AC tbl) op e H) (CDops tbl d op eff back r hist e H R) := by rw [AOD_guard h, if_pos rfl]; rfl

/-- A choice by a value. -/
def CondA (tbl : Nat → Option AFn) (o : Option Value) (a b : ACode) (e : Env) (H : Heap) (Q : AExit → Env → Heap → Prop) : Prop := match o with
  | some (.bool true) => AW tbl a e H Q
  | some (.bool false) => AW tbl b e H Q
  | _ => False
theorem CondA_true {a b : ACode} : CondA tbl (some (.bool true)) a b e H Q = AW tbl a e H Q := rfl
theorem CondA_false {a b : ACode} : CondA tbl (some (.bool false)) a b e H Q = AW tbl b e H Q := rfl
theorem CondA_of {x : Bool} {a b : ACode} (h1 : x = true → AW tbl a e H Q) (h2 : x = false → AW tbl b e H Q) : CondA tbl (some (.bool x)) a b e H Q := by
  cases x
  · exact h2 rfl
  · exact h1 rfl
theorem CondA_dec {p : Prop} {hp : Decidable p} {a b : ACode} (h1 : p → AW tbl a e H Q) (h2 : ¬ p → AW tbl b e H Q) : CondA tbl (some (.bool (@decide p hp))) a b e H Q := by
  by_cases h : p
  · rw [decide_eq_true h]; exact h1 h
  · rw [decide_eq_false h]; exact h2 h
theorem RW_cond {c : Arg} {a b : ACode} : AW tbl (.cond c a b) e H Q = CondA tbl (ev e c) a b e H Q := by
  rw [AW_cond]
  apply propext; constructor
  · rintro (⟨h1, h2⟩ | ⟨h1, h2⟩) <;> rw [h1] <;> exact h2
  · intro h
    unfold CondA at h
    split at h
    · exact .inl ⟨‹_›, h⟩
    · exact .inr ⟨‹_›, h⟩
    · exact h.elim

theorem lk_put {d n : Nat} {v : Value} : lk (putE e (some d) v) n = if d = n then some v else lk e n := rfl
theorem lk_none {n : Nat} {v : Value} : lk (putE e none v) n = lk e n := rfl
theorem lk_cons {d n : Nat} {v : Value} {r : Env} : lk ((d, v) :: r) n = if d = n then some v else lk r n := rfl
theorem lk_nil {n : Nat} : lk [] n = none := rfl
theorem keep_nil : keep e [] = [] := rfl
theorem keep_cons {t : Nat} {r : List Nat} : keep e (t :: r) = match lk e t with | some v => (t, v) :: keep e r | none => keep e r := rfl

/-- How a function ends. -/
def finO (trunc : Bool) (n : Nat) (o : Option (List Value)) (H : Heap) : Option (Value × Heap) := o.map fun vs => fin trunc n (tup vs) H
theorem finO_some {t : Bool} {n : Nat} {vs : List Value} : finO t n (some vs) H = some (fin t n (tup vs) H) := rfl
def Ends (rs : List ARes) (t : Bool) (n : Nat) (K : Value → Heap → Prop) : AExit → Env → Heap → Prop
  | .exit _, _, _ => False
  | _, e, H => Op1 (finO t n (ares e H rs) H) K
theorem Ends_ret {rs : List ARes} {t : Bool} {n : Nat} : Ends rs t n K .ret e H = Op1 (finO t n (ares e H rs) H) K := rfl
theorem Ends_normal {rs : List ARes} {t : Bool} {n : Nat} : Ends rs t n K .normal e H = Op1 (finO t n (ares e H rs) H) K := rfl

/-- A function, through its body. -/
theorem AC_wp {f : Nat} {vs : List Value} {F : AFn} (hF : tbl f = some F) (hl : vs.length ≤ F.ntmps) (hi : F.iso = false ∨ H = [])
    (h : AW tbl F.body (argsE 0 vs) H (Ends F.results F.trunc H.length K)) : Op1 (AC tbl f vs H) K := by
  obtain ⟨n, x, e1, H1, h1, h2⟩ := h
  have : ∃ r, (ares e1 H1 F.results).map (fun vs => fin F.trunc H.length (tup vs) H1) = some r ∧ K r.1 r.2 ∧ ∀ i, x ≠ .exit i := by
    cases x with
    | exit i => exact h2.elim
    | normal => obtain ⟨v, H2, hv, hk⟩ := h2; unfold finO at hv; exact ⟨(v, H2), hv, hk, fun i => by simp⟩
    | ret => obtain ⟨v, H2, hv, hk⟩ := h2; unfold finO at hv; exact ⟨(v, H2), hv, hk, fun i => by simp⟩
  obtain ⟨⟨v, H2⟩, hr, hk, hx⟩ := this
  obtain ⟨rvs, hrvs, hfin⟩ := Option.map_eq_some_iff.1 hr
  exact ⟨v, H2, AC_of hF hl hi ⟨n, x, e1, H1, h1, hx, rvs, hrvs, hfin⟩, hk⟩

theorem AC_eq {f : Nat} {vs : List Value} {v : Value} (h : Op1 (AC tbl f vs H) fun v1 H1 => v1 = v ∧ H1 = H') : AC tbl f vs H = some (v, H') := by
  obtain ⟨v1, H1, h1, rfl, rfl⟩ := h
  exact h1
theorem Op1_mono {r : Option (Value × Heap)} {K' : Value → Heap → Prop} (h : Op1 r K) (hk : ∀ v H, K v H → K' v H) : Op1 r K' := by
  obtain ⟨v, H1, h1, h2⟩ := h
  exact ⟨v, H1, h1, hk _ _ h2⟩

/-- At the next round's start. -/
def Inv (I : Nat → Env → Heap → Prop) (k : Nat) : Env → Heap → Prop := fun e H => ∃ k', k' < k ∧ I k' e H
/-- A loop, by what holds at each round's start. -/
theorem AW_loop_inv {a : ACode} (I : Nat → Env → Heap → Prop) (step : ∀ k e H, I k e H → AW tbl a e H (Then (Inv I k) Q)) : ∀ k e H, I k e H → AW tbl (.loop a) e H Q := by
  intro k
  induction k using Nat.strongRecOn with
  | ind k ih =>
    intro e H hI
    rw [AW_loop]
    refine (step k e H hI).mono fun x e H hx => ?_
    cases x with
    | normal => obtain ⟨k', hk, hI'⟩ := hx; exact ih k' hk e H hI'
    | ret => exact hx
    | exit i => exact hx
end

/-! ## Operations -/
section
variable {c : CallF} {e : Env} {H : Heap}
theorem dval_call {f : Nat} {args : List Arg} : dval c (.call f args) e H = (evs e args).bind fun vs => c f vs H := rfl
theorem dval_callv {f : Arg} {args : List Arg} : dval c (.callv f args) e H = match ev e f with
    | some (.func (.func i) first captured) => (evs e args).bind fun vs => c i (first.toList ++ vs ++ captured.toList) H
    | _ => none := rfl

theorem binV_add (k : IntKind) (a b : Int) : binV .add (.int k a) (.int k b) = some (.int k (k.wrap (a + b))) := by simp [binV]; rfl
theorem binV_sub (k : IntKind) (a b : Int) : binV .sub (.int k a) (.int k b) = some (.int k (k.wrap (a - b))) := by simp [binV]; rfl
theorem binV_mul (k : IntKind) (a b : Int) : binV .mul (.int k a) (.int k b) = some (.int k (k.wrap (a * b))) := by simp [binV]; rfl
theorem binV_eql (k : IntKind) (a b : Int) : binV .eql (.int k a) (.int k b) = some (.bool (decide (a = b))) := by simp [binV]; show some (Value.bool (a == b)) = _; rfl
theorem binV_neq (k : IntKind) (a b : Int) : binV .neq (.int k a) (.int k b) = some (.bool (decide (a ≠ b))) := by
  simp only [binV, if_true]; show some (Value.bool (a != b)) = _; rw [bne]; simp [BEq.beq]
theorem binV_lss (k : IntKind) (a b : Int) : binV .lss (.int k a) (.int k b) = some (.bool (decide (a < b))) := by simp [binV]; rfl
theorem binV_leq (k : IntKind) (a b : Int) : binV .leq (.int k a) (.int k b) = some (.bool (decide (a ≤ b))) := by simp [binV]; rfl
theorem binV_gtr (k : IntKind) (a b : Int) : binV .gtr (.int k a) (.int k b) = some (.bool (decide (b < a))) := by simp [binV]; rfl
theorem binV_geq (k : IntKind) (a b : Int) : binV .geq (.int k a) (.int k b) = some (.bool (decide (b ≤ a))) := by simp [binV]; rfl
theorem binV_shl (k k' : IntKind) (a b : Int) (h : ¬ b < 0) : binV .shl (.int k a) (.int k' b) = some (.int k (k.wrap (a * 2 ^ (min b.toNat k.bits)))) := by
  simp only [binV, Op.shift, if_neg h]; rfl
theorem binV_shr (k k' : IntKind) (a b : Int) (h : ¬ b < 0) : binV .shr (.int k a) (.int k' b) = some (.int k (a.fdiv (2 ^ (min b.toNat k.bits)))) := by
  simp only [binV, Op.shift, if_neg h]; rfl
theorem binV_quo (k : IntKind) (a b : Int) (h : ¬ b = 0) : binV .quo (.int k a) (.int k b) = some (.int k (k.wrap (a.tdiv b))) := by
  simp only [binV, Op.intDiv, if_neg h, if_true]; rfl
theorem binV_rem (k : IntKind) (a b : Int) (h : ¬ b = 0) : binV .rem (.int k a) (.int k b) = some (.int k (a.tmod b)) := by
  simp only [binV, Op.intDiv, if_neg h, if_true]; rfl
theorem binV_and (k : IntKind) (a b : Int) : binV .and (.int k a) (.int k b) = some (.int k (k.wrap (BitVec.ofInt k.bits a &&& BitVec.ofInt k.bits b).toNat)) := by simp [binV]; rfl
theorem binV_or (k : IntKind) (a b : Int) : binV .or (.int k a) (.int k b) = some (.int k (k.wrap (BitVec.ofInt k.bits a ||| BitVec.ofInt k.bits b).toNat)) := by simp [binV]; rfl
theorem un_not (b : Bool) : eval0 (Op.unary .not (.bool b)) = some (.bool !b) := rfl
theorem un_neg (k : IntKind) (n : Int) : eval0 (Op.unary .neg (.int k n)) = some (.int k (k.wrap (0 - n))) := rfl

theorem fin_false {n : Nat} {v : Value} : fin false n v H = (v, H) := by simp [fin]
theorem fin_same {t : Bool} {v : Value} : fin t H.length v H = (v, H) := by
  unfold fin
  split
  · simp
  · rfl
def WFH (H : Heap) : Prop := H.all (blkB H.length) = true
theorem fin_append {v : Value} {L : Heap} (hv : idsB 9 H.length v = true) (h : WFH H) : fin true H.length v (H ++ L) = (v, H) := by
  unfold fin
  rw [if_pos]
  · simp
  · simp only [List.take_left, hv, Bool.true_and]; exact h

theorem hload_last {cs : List Value} {rw' : Bool} {n : Option Nat} {o : Nat} : hload (H ++ [some ⟨rw', cs⟩]) n ⟨H.length, o, none⟩ = match n with
    | none => cs[o]?
    | some n => if o + n ≤ cs.length then some (.agg ((cs.drop o).take n).toArray) else none := by
  cases n <;> simp only [hload, hget_append_self, Option.bind_some]
theorem hstore_last {cs vs : List Value} {o : Nat} (h : (decide (o + vs.length ≤ cs.length) && vs.all one) = true) : hstore (H ++ [some ⟨true, cs⟩]) ⟨H.length, o, none⟩ vs = some (H ++ [some ⟨true, splice cs o vs⟩]) := by
  simp only [hstore, hget_append_self, Option.bind_some, Bool.true_and]
  rw [if_pos h]
  simp
end

/-! ## An operation that is carried out in elder memories as well -/
def Again (op : AOp) (e : Env) (l : List Heap) (r : Option (Value × Heap)) : Prop := (match r with | some (v, _) => again op e v l | none => false) = true
theorem CDops_again {tbl : Nat → Option AFn} {e : Env} {H H0 : Heap} {R : Env → Heap → Prop} {d : Option Nat} {op : AOp} {n : Nat} {r : List DOper} {hist : List Heap} {v : Value} : CDops tbl d op false (n + 1) r hist e H0 R v H =
    (Again op e (hist.take (n + 1)) (aop op e H0) ∧ AOD tbl r hist (putE e d v) H R) := CDops_back
theorem Again_nil {op : AOp} {e : Env} {v : Value} {H : Heap} : Again op e [] (some (v, H)) = True := by simp [Again, again]
def Same1 (v : Value) (r : Option (Value × Heap)) : Prop := (match r with | some (v', _) => sameV 9 v v' | none => false) = true
theorem Again_cons {op : AOp} {e : Env} {v : Value} {H G : Heap} {l : List Heap} : Again op e (G :: l) (some (v, H)) = (Same1 v (aop op e G) ∧ Again op e l (some (v, H))) := by
  simp [Again, again, Same1]
  intro _
  cases aop op e G <;> rfl
theorem Same1_int {k : IntKind} {n : Int} {H : Heap} : Same1 (.int k n) (some (.int k n, H)) = True := by simp [Same1, sameV]
theorem Same1_bool {b : Bool} {H : Heap} : Same1 (.bool b) (some (.bool b, H)) = True := by simp [Same1, sameV]
theorem Same1_str {s : ByteArray} {H : Heap} : Same1 (.string s) (some (.string s, H)) = True := by simp [Same1, sameV]
theorem Same1_ptr {a : Addr} {H : Heap} : Same1 (.pointer (some a)) (some (.pointer (some a), H)) = True := by simp [Same1, sameV]
theorem Same1_slice {a : Addr} {n z : Nat} {H : Heap} : Same1 (.slice (some a) n z) (some (.slice (some a) n z, H)) = True := by simp [Same1, sameV]
theorem Same1_nil {H : Heap} : Same1 (.slice none 0 0) (some (.slice none 0 0, H)) = True := by simp [Same1, sameV]
theorem take_one {G : Heap} {l : List Heap} : List.take (0 + 1) (G :: l) = [G] := by simp
theorem take_two {G G2 : Heap} {l : List Heap} : List.take (1 + 1) (G :: G2 :: l) = [G, G2] := by simp
theorem CDops_1 {tbl : Nat → Option AFn} {e : Env} {H H0 G : Heap} {R : Env → Heap → Prop} {d : Option Nat} {op : AOp} {r : List DOper} {hist : List Heap} {v : Value} : CDops tbl d op false 1 r (G :: hist) e H0 R v H =
    (Again op e [G] (aop op e H0) ∧ AOD tbl r (G :: hist) (putE e d v) H R) := by rw [CDops_again (n := 0), take_one]
theorem CDops_2 {tbl : Nat → Option AFn} {e : Env} {H H0 G G2 : Heap} {R : Env → Heap → Prop} {d : Option Nat} {op : AOp} {r : List DOper} {hist : List Heap} {v : Value} : CDops tbl d op false 2 r (G :: G2 :: hist) e H0 R v H =
    (Again op e [G, G2] (aop op e H0) ∧ AOD tbl r (G :: G2 :: hist) (putE e d v) H R) := by rw [CDops_again (n := 1), take_two]

section
variable {tbl : Nat → Option AFn} {e : Env} {H : Heap} {R : Env → Heap → Prop}
theorem RO_u {d : Option Nat} {t : Nat} {b : Bool} {op : AOp} {r : List AOper} (h : lk e t = some undef) : AO tbl (⟨d, some (t, b), op⟩ :: r) e H R = AO tbl r (putE e d undef) H R := by
  unfold AO
  simp only [aops, step, want, h, undef, Option.bind_some]
theorem RD_u {d : Option Nat} {t : Nat} {b : Bool} {op : AOp} {back : Nat} {r : List DOper} {hist : List Heap} (h : lk e t = some undef) : AOD tbl (⟨⟨d, some (t, b), op⟩, false, back⟩ :: r) hist e H R = AOD tbl r hist (putE e d undef) H R := by
  unfold AOD
  simp only [aopsD, step, want, h, undef, Option.bind_some, okBack]
  simp
end

end Go.Proofs.Ytlbhbjaimcinbaa.AI

