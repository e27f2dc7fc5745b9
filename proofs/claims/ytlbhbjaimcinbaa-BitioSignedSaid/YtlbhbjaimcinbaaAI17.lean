/- A region whose order is open, third part. -/
import Derived.Test.YtlbhbjaimcinbaaAI16
namespace Go.Proofs.Ytlbhbjaimcinbaa.AI
open Go

theorem lk_restrict {e : Env} : ∀ {us : List Nat} {t : Nat}, lk (us.filterMap fun t => (lk e t).map fun v => (t, v)) t = if t ∈ us then lk e t else none := by
  intro us
  induction us with
  | nil => intro t; simp [lk]
  | cons u us ih =>
    intro t
    cases hu : lk e u with
    | none =>
      simp only [List.filterMap_cons, hu, Option.map_none, ih, List.mem_cons]
      by_cases htu : t = u
      · subst htu; simp [hu]
      · simp [htu]
    | some v =>
      simp only [List.filterMap_cons, hu, Option.map_some, lk, ih, List.mem_cons]
      by_cases htu : u = t
      · subst htu; simp [hu]
      · have : ¬ t = u := fun h => htu h.symm
        simp [htu, this]

theorem cOpers_get {P : Program} {τ σ : Nat → Nat} {ops : Array Oper} : ∀ {l : List Oper} {os : List AOper}, cOpers P τ σ ops l = some os → ∀ (i : Nat) (ao : AOper), os[i]? = some ao → ∃ o, l[i]? = some o ∧ cOper P τ σ ops o = some ao := by
  intro l
  induction l with
  | nil => intro os h i ao hi; simp only [cOpers, Option.some.injEq] at h; subst h; simp at hi
  | cons o l ih =>
    intro os h i ao hi
    simp only [cOpers, Option.bind_eq_some_iff] at h
    obtain ⟨ao', hao, os', hos, h⟩ := h
    injection h with h; subst h
    cases i with
    | zero => simp at hi; subst hi; exact ⟨o, rfl, hao⟩
    | succ i => exact ih hos i ao (by simpa using hi)

theorem permD_le {os : List AOper} : ∀ (l : List (Nat × Nat)), (permD os l).length ≤ l.length
  | [] => by simp [permD]
  | (i, b) :: r => by
    simp only [permD]
    split <;> simp only [List.length_cons] <;> have := permD_le (os := os) r <;> omega

theorem permD_get {os : List AOper} : ∀ {l : List (Nat × Nat)}, (permD os l).length = l.length → ∀ (p i b : Nat), l[p]? = some (i, b) → ∃ ao, os[i]? = some ao ∧ (permD os l)[p]? = some ⟨ao, isEff ao.op, b⟩ := by
  intro l
  induction l with
  | nil => intro _ p i b h; simp at h
  | cons x l ih =>
    obtain ⟨i0, b0⟩ := x
    intro hl p i b h
    cases ho : os[i0]? with
    | none =>
      simp only [permD, ho, List.length_cons] at hl
      have := permD_le (os := os) l
      omega
    | some ao0 =>
      simp only [permD, ho, List.length_cons, Nat.add_right_cancel_iff] at hl
      cases p with
      | zero =>
        simp only [List.getElem?_cons_zero, Option.some.injEq, Prod.mk.injEq] at h
        obtain ⟨rfl, rfl⟩ := h
        exact ⟨ao0, ho, by simp [permD, ho]⟩
      | succ p =>
        obtain ⟨ao, h1, h2⟩ := ih hl p i b (by simpa using h)
        exact ⟨ao, h1, by simpa [permD, ho] using h2⟩

/-- What is known while a region is carried out in the order that was drawn: L tells which places of the interpreter's order are done. -/
structure Mid (σ : Nat → Nat) (base : Nat) (n : Nat) (d : Nat → DOper) (f : Nat → Env × Heap × List Heap) (B0 : Map) (H0 : Heap) (w0 : World) (a0 : Act) (L : Nat → Prop) (B : Map) (s : Nat) (a : Act) (w : World) : Prop where
  sn : s ≤ n
  eff : ∀ p, p < n → (d p).eff = true → (L p ↔ p < s)
  hr : HR σ base B (f s).2.1 w
  stp : Stp B0 H0 w0 B (f s).2.1 w
  put : ∀ q, q < n → L q → ∀ t, (d q).o.dst = some t → ∀ v, lk (f (q + 1)).1 t = some v → ∃ v', a.tmps[t]? = some v' ∧ VR σ B v v'
  old : ∀ t, (∀ q, q < n → L q → (d q).o.dst ≠ some t) → a.tmps[t]? = a0.tmps[t]?
  defers : a.defers = a0.defers
  size : a.tmps.size = a0.tmps.size

section
variable {P : Program} {τ σ : Nat → Nat} {base : Nat}
variable {call : Nat → List Value → Heap → Option (Value × Heap)}
variable {ops : Array Oper} {pre : List (List Nat)} {at_ : Nat → Nat} {d : Nat → DOper} {f : Nat → Env × Heap × List Heap}

/-- What a step of the interpreter's order puts. -/
def PutV (call : Nat → List Value → Heap → Option (Value × Heap)) (dd : DOper) (e : Env) (H : Heap) (e' : Env) (H' : Heap) : Prop :=
  (want dd.o e = some true ∧ ∃ v, dval call dd.o.op e H = some (v, H') ∧ e' = putE e dd.o.dst v) ∨ (want dd.o e = some false ∧ H' = H ∧ e' = putE e dd.o.dst undef)

theorem step_putV {dd : DOper} {e e' : Env} {H H' : Heap} (h : step call dd.o e H = some (e', H')) : PutV call dd e H e' H' := by
  unfold step at h
  split at h
  · rename_i hw
    simp only [does, Option.map_eq_some_iff] at h
    obtain ⟨⟨v, H1⟩, hv, he⟩ := h
    simp only [Prod.mk.injEq] at he
    exact .inl ⟨hw, v, by rw [hv, he.2], he.1.symm⟩
  · rename_i hw
    injection h with h; injection h with h1 h2
    exact .inr ⟨hw, h2.symm, h1.symm⟩
  · simp at h

theorem dval_pure {op : AOp} (h : isPure op = true ∨ isRead op = true) (e : Env) (H : Heap) : dval call op e H = aop op e H := by
  cases op <;> first | rfl | (simp [isPure, isRead] at h)

variable (F : DFacts ops pre at_ d)
variable (T : ∀ p, p < ops.size → PutV call (d p) (f p).1 (f p).2.1 (f (p + 1)).1 (f (p + 1)).2.1)
variable (Hs : ∀ p, p < ops.size → (f (p + 1)).2.2 = if (d p).eff then (f p).2.1 :: (f p).2.2 else (f p).2.2)
variable (Bk : ∀ p, p < ops.size → (d p).back = 0 ∨ want (d p).o (f p).1 = some false ∨ ∃ v H2, aop (d p).o.op (f p).1 (f p).2.1 = some (v, H2) ∧ again (d p).o.op (f p).1 v ((f p).2.2.take (d p).back) = true)
include F T Hs Bk

omit Hs Bk in
theorem heap_same {p : Nat} (hp : p < ops.size) (he : (d p).eff = false) : (f (p + 1)).2.1 = (f p).2.1 := by
  rcases T p hp with ⟨_, v, hv, _⟩ | ⟨_, h, _⟩
  · rcases F.kind p hp with h | h | h
    · rw [h] at he; simp at he
    · rw [dval_pure (.inl h)] at hv; exact (pure_heap h [] hv).1
    · rw [dval_pure (.inr h)] at hv; exact read_heap h hv
  · exact h

omit Hs Bk in
theorem heap_range {s : Nat} : ∀ {p : Nat}, s ≤ p → p ≤ ops.size → (∀ q, s ≤ q → q < p → (d q).eff = false) → (f p).2.1 = (f s).2.1 := by
  intro p
  induction p with
  | zero => intro h _ _; obtain rfl : s = 0 := by omega
            rfl
  | succ p ih =>
    intro h hn hq
    by_cases e : s = p + 1
    · subst e; rfl
    · rw [heap_same F T (by omega) (hq p (by omega) (by omega))]
      exact ih (by omega) (by omega) fun q h1 h2 => hq q h1 (by omega)

omit F Hs Bk in
theorem lk_before {t : Nat} : ∀ {p : Nat}, p ≤ ops.size → (∀ q, q < p → (d q).o.dst ≠ some t) → lk (f p).1 t = lk (f 0).1 t := by
  intro p
  induction p with
  | zero => intro _ _; rfl
  | succ p ih =>
    intro hn h
    rw [← ih (by omega) fun q hq => h q (by omega)]
    have hne := h p (by omega)
    have key : ∀ v, lk (putE (f p).1 (d p).o.dst v) t = lk (f p).1 t := by
      intro v
      cases hd : (d p).o.dst with
      | none => rfl
      | some u =>
        have : ¬ u = t := fun e => hne (by rw [hd, e])
        simp [putE, lk, this]
    rcases T p (by omega) with ⟨_, v, _, he⟩ | ⟨_, _, he⟩ <;> rw [he, key]

omit Hs Bk in
theorem lk_after {t q : Nat} (hq : q < ops.size) (hd : (d q).o.dst = some t) : ∀ {p : Nat}, q < p → p ≤ ops.size → lk (f p).1 t = lk (f (q + 1)).1 t := by
  intro p
  induction p with
  | zero => intro h; omega
  | succ p ih =>
    intro h hn
    by_cases e : q = p
    · subst e; rfl
    · rw [← ih (by omega) (by omega)]
      have hne : (d p).o.dst ≠ some t := F.dst q p hq (by omega) e t hd
      have key : ∀ v, lk (putE (f p).1 (d p).o.dst v) t = lk (f p).1 t := by
        intro v
        cases hd : (d p).o.dst with
        | none => rfl
        | some u =>
          have : ¬ u = t := fun e => hne (by rw [hd, e])
          simp [putE, lk, this]
      rcases T p (by omega) with ⟨_, v, _, he⟩ | ⟨_, _, he⟩ <;> rw [he, key]

omit F T Bk in
theorem hist_at {q : Nat} (he : (d q).eff = true) : ∀ {p : Nat}, q < p → p ≤ ops.size → (f p).2.2[cnt (fun x => (d x).eff) q p]? = some (f q).2.1 := by
  intro p
  induction p with
  | zero => intro h; omega
  | succ p ih =>
    intro h hn
    rw [Hs p (by omega)]
    by_cases e : q = p
    · subst e
      have hz : ∀ p, p ≤ q → cnt (fun x => (d x).eff) q p = 0 := by
        intro p
        induction p with
        | zero => intro _; rfl
        | succ p ih => intro hp; simp only [cnt]; rw [ih (by omega), if_neg (fun h => by omega)]
      simp only [cnt]
      rw [hz q (Nat.le_refl _), if_pos he]
      simp
    · have := ih (by omega) (by omega)
      simp only [cnt]
      by_cases hp : (d p).eff = true
      · rw [if_pos hp, if_pos ⟨by omega, hp⟩]; simpa using this
      · rw [if_neg hp, if_neg (fun h => hp h.2)]; simpa using this

/-- The next operation, wherever it comes. -/
theorem mid_step (Ef : ∀ p, p < ops.size → (d p).eff = isEff (d p).o.op) (hcall : CallOK P σ base call) {B0 : Map} {H0 : Heap} {w0 : World} {a0 : Act} (h0 : TR σ B0 (f 0).1 a0) {L : Nat → Prop} {B : Map} {s : Nat} {a : Act} {w : World} (M : Mid σ base ops.size d f B0 H0 w0 a0 L B s a w)
    {p : Nat} (hp : p < ops.size) (hL : ¬ L p) (hpre : ∀ q, q < ops.size → at_ q ∈ pre.getD (at_ p) [] → L q) (hclo : ∀ q, q < ops.size → L q → ∀ r, r < ops.size → at_ r ∈ pre.getD (at_ q) [] → L r)
    {o : Oper} (ho : ops[at_ p]? = some o) (hc : cOper P τ σ ops o = some (d p).o) (hd : ∀ t, o.dst = some t → t < a.tmps.size) {K : Act → World → Prop} {Q : Exit → Act → World → Prop}
    (hK : ∀ a' w' B' s', Mid σ base ops.size d f B0 H0 w0 a0 (fun q => L q ∨ q = p) B' s' a' w' → K a' w') :
    if Region.wanted o (yielded ops a.tmps) then o.wp P a w K Q else K (a.put o.dst undef) w := by
  obtain ⟨hop, hdst⟩ := cOper_op hc
  -- what the operation sees
  have ht : TR σ B ((operU (d p).o).filterMap fun t => (lk (f p).1 t).map fun v => (t, v)) a := by
    intro t v hv
    rw [lk_restrict] at hv
    split at hv
    · rename_i hu
      by_cases hex : ∃ q, q < ops.size ∧ (d q).o.dst = some t
      · obtain ⟨q, hq, hqd⟩ := hex
        have orig : (∀ r, r < ops.size → L r → (d r).o.dst ≠ some t) → (∀ r, r < p → (d r).o.dst ≠ some t) → ∃ v', a.tmps[t]? = some v' ∧ VR σ B v v' := by
          intro h1 h2
          rw [lk_before T (by omega) h2] at hv
          obtain ⟨v', hv', r⟩ := h0 t v hv
          exact ⟨v', by rw [M.old t h1]; exact hv', r.mono M.stp.ext⟩
        by_cases hqp : p = q
        · subst hqp
          refine orig (fun r hr hLr hrd => ?_) (fun r hr hrd => ?_)
          · by_cases e : r = p
            · subst e; exact hL hLr
            · exact F.dst p r hp hr (Ne.symm e) t hqd hrd
          · exact F.dst p r hp (by omega) (by omega) t hqd hrd
        · have hu2 := F.use p q hp hq hqp t hqd hu
          by_cases hlt : q < p
          · have hLq := hpre q hq (hu2.1 hlt)
            rw [lk_after F T hq hqd hlt (by omega)] at hv
            exact M.put q hq hLq t hqd v hv
          · have hnL : ¬ L q := fun h => hL (hclo q hq h p hp (hu2.2 hlt))
            refine orig (fun r hr hLr hrd => ?_) (fun r hr hrd => ?_)
            · by_cases e : r = q
              · subst e; exact hnL hLr
              · exact F.dst q r hq hr (Ne.symm e) t hqd hrd
            · exact F.dst q r hq (by omega) (by omega) t hqd hrd
      · rw [lk_before T (by omega) (fun r hr hrd => hex ⟨r, by omega, hrd⟩)] at hv
        obtain ⟨v', hv', r⟩ := h0 t v hv
        exact ⟨v', by rw [M.old t (fun r hr _ hrd => hex ⟨r, hr, hrd⟩)]; exact hv', r.mono M.stp.ext⟩
    · simp at hv
  have hag : ∀ t ∈ operU (d p).o, lk ((operU (d p).o).filterMap fun t => (lk (f p).1 t).map fun v => (t, v)) t = lk (f p).1 t := fun t hu => by rw [lk_restrict, if_pos hu]
  have hwant := want_congr (o := (d p).o) (fun t hu => (hag t hu))
  -- the memory before and behind it
  have stay : (d p).eff = false → ∀ q, q < ops.size → (d q).eff = true → ((L q ∨ q = p) ↔ q < s) := by
    intro he q hq hqe
    rw [← M.eff q hq hqe]
    constructor
    · rintro (h | h)
      · exact h
      · subst h; rw [he] at hqe; simp at hqe
    · exact .inl
  have go : (d p).eff = true → p ≥ s ∧ (∀ q, s ≤ q → q < p → (d q).eff = false) ∧ ∀ q, q < ops.size → (d q).eff = true → ((L q ∨ q = p) ↔ q < p + 1) := by
    intro he
    have hnp : isPure (d p).o.op = false := by
      have := Ef p hp
      rw [this] at he
      simp only [isEff, Bool.not_eq_true', Bool.or_eq_false_iff] at he
      exact he.1
    have h1 : p ≥ s := by
      by_cases h : p < s
      · exact absurd ((M.eff p hp he).2 h) hL
      · omega
    have h2 : ∀ q, q < p → (d q).eff = true → L q := by
      intro q hq hqe
      rcases F.earlier p q hp (by omega) hq hqe hnp with h | ⟨h, _⟩
      · exact hpre q (by omega) h
      · rw [he] at h; simp at h
    refine ⟨h1, fun q hsq hqp => ?_, fun q hq hqe => ?_⟩
    · cases hqe : (d q).eff with
      | false => rfl
      | true => have := (M.eff q (by omega) hqe).1 (h2 q hqp hqe); omega
    · constructor
      · rintro (h | h)
        · have := (M.eff q hq hqe).1 h; omega
        · omega
      · intro h
        by_cases e : q = p
        · exact .inr e
        · exact .inl (h2 q (by omega) hqe)
  -- behind it
  have fin : ∀ {v : Value} {v' : Value} {w' : World} {B' : Map} {s' : Nat}, (f (p + 1)).1 = putE (f p).1 (d p).o.dst v → s' ≤ ops.size → (∀ q, q < ops.size → (d q).eff = true → ((L q ∨ q = p) ↔ q < s')) →
      VR σ B' v v' → HR σ base B' (f s').2.1 w' → Stp B (f s).2.1 w B' (f s').2.1 w' → K (a.put o.dst v') w' := by
    intro v v' w' B' s' he hs' heff hv hr hst
    refine hK _ w' B' s' ⟨hs', heff, hr, M.stp.trans hst, fun q hq hLq t hqd u hu => ?_, fun t hno => ?_, by rw [put_defers]; exact M.defers, by rw [put_size]; exact M.size⟩
    · rcases hLq with hLq | rfl
      · obtain ⟨u', hu', r⟩ := M.put q hq hLq t hqd u hu
        refine ⟨u', ?_, r.mono hst.ext⟩
        have hqp : p ≠ q := fun h => hL (h ▸ hLq)
        rw [← hdst]
        cases hpd : (d p).o.dst with
        | none => exact hu'
        | some x =>
          have : x ≠ t := fun h => F.dst p q hp hq hqp x hpd (by rw [hqd, h])
          simp [Act.put, Array.getElem?_setIfInBounds_ne this, hu']
      · rw [he, hqd] at hu
        simp [putE, lk] at hu
        subst hu
        refine ⟨v', ?_, hv⟩
        rw [← hdst, hqd]
        simp [Act.put, hd t (by rw [← hdst, hqd])]
    · rw [← M.old t (fun q hq hLq => hno q hq (.inl hLq))]
      have := hno p hp (.inr rfl)
      rw [← hdst]
      cases hpd : (d p).o.dst with
      | none => rfl
      | some x =>
        have : x ≠ t := fun h => this (by rw [hpd, h])
        simp [Act.put, Array.getElem?_setIfInBounds_ne this]
  rcases T p hp with ⟨hw, v, hv, he⟩ | ⟨hw, hH, he⟩
  · -- it is carried out
    rw [← hwant] at hw
    rw [want_sound ht hc hw]
    simp only [if_true]
    have run : ∀ {H2 : Heap}, dval call (d p).o.op ((operU (d p).o).filterMap fun t => (lk (f p).1 t).map fun v => (t, v)) (f s).2.1 = some (v, H2) → ∀ s', s' ≤ ops.size → (f s').2.1 = H2 → (∀ q, q < ops.size → (d q).eff = true → ((L q ∨ q = p) ↔ q < s')) → o.wp P a w K Q := by
      intro H2 hrun s' hs' hH2 heff
      refine op_wp hcall M.hr ht hop hrun fun v' w' B' hdone => ?_
      obtain ⟨r1, r2, r3⟩ := hdone
      subst hH2
      exact fin he hs' heff r1 r2 r3
    have hco : ∀ H, dval call (d p).o.op ((operU (d p).o).filterMap fun t => (lk (f p).1 t).map fun v => (t, v)) H = dval call (d p).o.op (f p).1 H := fun H => dval_congr fun t hu => hag t (by simp [operU, hu])
    cases heff : (d p).eff with
    | true =>
      obtain ⟨h1, h2, h3⟩ := go heff
      have hh := heap_range F T (s := s) (p := p) h1 (by omega) h2
      exact run (by rw [hco, ← hh]; exact hv) (p + 1) (by omega) rfl h3
    | false =>
      have st := stay heff
      rcases F.kind p hp with h | h | h
      · rw [heff] at h; simp at h
      · rw [dval_pure (.inl h)] at hv
        refine run (by rw [hco, dval_pure (.inl h)]; exact (pure_heap h (f s).2.1 hv).2) s M.sn rfl st
      · rw [dval_pure (.inr h)] at hv
        have hnp : isPure (d p).o.op = false := by
          cases hopp : (d p).o.op <;> rw [hopp] at h <;> first | (simp [isRead] at h; done) | rfl
        have same : (f s).2.1 = (f p).2.1 → o.wp P a w K Q := by
          intro hh
          have h1 := read_heap h hv
          exact run (H2 := (f s).2.1) (by rw [hco, dval_pure (.inr h), hh]; rw [h1] at hv; exact hv) s M.sn rfl st
        by_cases hsp : p < s
        · -- no effect between p and s
          refine same (heap_range F T (s := p) (p := s) (by omega) M.sn fun q h1 h2 => ?_)
          cases hqe : (d q).eff with
          | false => rfl
          | true =>
            by_cases e : q = p
            · subst e; rw [heff] at hqe; simp at hqe
            · have hLq := (M.eff q (by have := M.sn; omega) hqe).2 h2
              exact absurd (hclo q (by have := M.sn; omega) hLq p hp (F.later p q hp (by have := M.sn; omega) (by omega) hqe hnp)) hL
        · by_cases hex : ∃ q, s ≤ q ∧ q < p ∧ (d q).eff = true
          · -- the first effect that is still to come
            obtain ⟨q, hq, hmin⟩ : ∃ q, (s ≤ q ∧ q < p ∧ (d q).eff = true) ∧ ∀ x, s ≤ x → x < q → (d x).eff = false := by
              obtain ⟨q0, hq0⟩ := hex
              have : ∀ m q, q ≤ m → (s ≤ q ∧ q < p ∧ (d q).eff = true) → ∃ q, (s ≤ q ∧ q < p ∧ (d q).eff = true) ∧ ∀ x, s ≤ x → x < q → (d x).eff = false := by
                intro m
                induction m with
                | zero => intro q hm hq; exact ⟨q, hq, fun x h1 h2 => by omega⟩
                | succ m ih =>
                  intro q hm hq
                  by_cases hx : ∃ x, s ≤ x ∧ x < q ∧ (d x).eff = true
                  · obtain ⟨x, h1, h2, h3⟩ := hx
                    exact ih x (by omega) ⟨h1, by omega, h3⟩
                  · refine ⟨q, hq, fun x h1 h2 => ?_⟩
                    cases hxe : (d x).eff with
                    | false => rfl
                    | true => exact absurd ⟨x, h1, h2, hxe⟩ hx
              exact this q0 q0 (Nat.le_refl _) hq0
            obtain ⟨h1, h2, h3⟩ := hq
            have hh := heap_range F T (s := s) (p := q) h1 (by omega) hmin
            have hnL : ¬ L q := fun hl => by have := (M.eff q (by omega) h3).1 hl; omega
            rcases F.earlier p q hp (by omega) h2 h3 hnp with hin | ⟨_, hcnt⟩
            · exact absurd (hpre q (by omega) hin) hnL
            · rcases Bk p hp with hb | hb | ⟨v2, H2, hv2, hag2⟩
              · omega
              · rw [hwant, hb] at hw; simp at hw
              · rw [hv] at hv2; injection hv2 with hv2; injection hv2 with e1 e2; subst e1
                have hmem : (f q).2.1 ∈ (f p).2.2.take (d p).back := by
                  refine List.mem_iff_getElem?.2 ⟨cnt (fun x => (d x).eff) q p, ?_⟩
                  rw [List.getElem?_take, if_pos hcnt]
                  exact hist_at Hs h3 h2 (by omega)
                obtain ⟨H3, h4⟩ := again_mem hag2 _ hmem
                have h5 := read_heap h h4
                refine run (H2 := (f s).2.1) (by rw [hco, dval_pure (.inr h), ← hh]; rw [h5] at h4; exact h4) s M.sn rfl st
          · refine same (heap_range F T (s := s) (p := p) (by omega) (by omega) fun q h1 h2 => ?_).symm
            cases hqe : (d q).eff with
            | false => rfl
            | true => exact absurd ⟨q, h1, h2, hqe⟩ hex
  · -- it is passed over
    rw [← hwant] at hw
    rw [want_sound ht hc hw]
    simp only [Bool.false_eq_true, if_false]
    cases heff : (d p).eff with
    | true =>
      obtain ⟨h1, h2, h3⟩ := go heff
      have hh := heap_range F T (s := s) (p := p) h1 (by omega) h2
      have hh2 : (f (p + 1)).2.1 = (f s).2.1 := hH.trans hh
      exact fin (B' := B) (s' := p + 1) he (by omega) h3 (.tuple' VRs.nil) (by rw [hh2]; exact M.hr) (by rw [hh2]; exact .refl _ _ _)
    | false => exact fin (B' := B) (s' := s) he M.sn (stay heff) (.tuple' VRs.nil) M.hr (.refl _ _ _)
end

end Go.Proofs.Ytlbhbjaimcinbaa.AI
