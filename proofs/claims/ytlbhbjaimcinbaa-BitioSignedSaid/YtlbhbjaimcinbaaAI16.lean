/- A region whose order is open, second part. -/
import Derived.Test.YtlbhbjaimcinbaaAI15
namespace Go.Proofs.Ytlbhbjaimcinbaa.AI
open Go

theorem filter_lt {p q : Nat → Bool} : ∀ {l : List Nat} {x : Nat}, (∀ y, q y = true → p y = true) → x ∈ l → p x = true → q x = false → (l.filter q).length < (l.filter p).length := by
  intro l
  have le : ∀ (l : List Nat), (∀ y, q y = true → p y = true) → (l.filter q).length ≤ (l.filter p).length := by
    intro l h
    induction l with
    | nil => simp
    | cons y l ih =>
      simp only [List.filter_cons]
      cases hq : q y with
      | true => simp [h y hq, ih]
      | false => cases hp : p y <;> simp [ih] ; omega
  induction l with
  | nil => intro x _ hx; simp at hx
  | cons y l ih =>
    intro x h hx hp hq
    have h0 := le l h
    rcases List.mem_cons.1 hx with rfl | hx
    · simp [hp, hq]; omega
    · have := ih h hx hp hq
      simp only [List.filter_cons]
      cases hq' : q y with
      | true => simp [h y hq', this]
      | false => cases hp' : p y <;> simp [this] ; omega

/-- The states between the operations. -/
theorem trace {call : Nat → List Value → Heap → Option (Value × Heap)} : ∀ {al : List DOper} {hist : List Heap} {e : Env} {H : Heap} {e' : Env} {H' : Heap}, aopsD call al hist e H = some (e', H') →
    ∃ f : Nat → Env × Heap × List Heap, f 0 = (e, H, hist) ∧ (f al.length).1 = e' ∧ (f al.length).2.1 = H' ∧ ∀ (p : Nat) (d : DOper), al[p]? = some d →
      step call d.o (f p).1 (f p).2.1 = some ((f (p + 1)).1, (f (p + 1)).2.1) ∧ (f (p + 1)).2.2 = (if d.eff then (f p).2.1 :: (f p).2.2 else (f p).2.2) ∧
      (d.back = 0 ∨ want d.o (f p).1 = some false ∨ ∃ v H2, aop d.o.op (f p).1 (f p).2.1 = some (v, H2) ∧ again d.o.op (f p).1 v ((f p).2.2.take d.back) = true) := by
  intro al
  induction al with
  | nil =>
    intro hist e H e' H' h
    simp only [aopsD, Option.some.injEq, Prod.mk.injEq] at h
    exact ⟨fun _ => (e, H, hist), rfl, h.1, h.2, fun p d hd => by simp at hd⟩
  | cons d al ih =>
    intro hist e H e' H' h
    simp only [aopsD, Option.bind_eq_some_iff] at h
    obtain ⟨⟨e1, H1⟩, hs, h⟩ := h
    simp only at h
    by_cases hcond : okBack d hist e H = true
    · rw [if_pos hcond] at h
      obtain ⟨f, f0, f1, f2, f3⟩ := ih h
      refine ⟨fun p => match p with | 0 => (e, H, hist) | p + 1 => f p, rfl, f1, f2, fun p d' hd => ?_⟩
      cases p with
      | zero =>
        simp only [List.getElem?_cons_zero, Option.some.injEq] at hd; subst hd
        simp only [f0]
        refine ⟨hs, by first | rfl | trivial, ?_⟩
        simp only [okBack, Bool.or_eq_true, decide_eq_true_eq, beq_iff_eq] at hcond
        rcases hcond with (hc | hc) | hc
        · exact .inl hc
        · exact .inr (.inl hc)
        · split at hc
          · rename_i v H2 hv; exact .inr (.inr ⟨v, H2, hv, hc⟩)
          · simp at hc
      | succ p =>
        simp only [List.getElem?_cons_succ] at hd
        exact f3 p d' hd
    · rw [if_neg hcond] at h; simp at h

theorem again_mem {op : AOp} {e : Env} {v : Value} : ∀ {l : List Heap}, again op e v l = true → ∀ H ∈ l, ∃ H2, aop op e H = some (v, H2) := by
  intro l
  induction l with
  | nil => intro _ H hH; simp at hH
  | cons H l ih =>
    intro h K hK
    simp only [again, Bool.and_eq_true] at h
    rcases List.mem_cons.1 hK with rfl | hK
    · obtain ⟨h, _⟩ := h
      split at h
      · rename_i v' H2 hv
        rw [sameV_eq 9 _ _ h]; exact ⟨H2, hv⟩
      · simp at h
    · exact ih h.2 K hK

structure DFacts (ops : Array Oper) (pre : List (List Nat)) (at_ : Nat → Nat) (d : Nat → DOper) : Prop where
  lt : ∀ p, p < ops.size → at_ p < ops.size
  sur : ∀ i, i < ops.size → ∃ p, p < ops.size ∧ at_ p = i
  just : ∀ i, i < ops.size → ∀ k ∈ pre.getD i [], k ∈ direct (ops.getD i default) ∨ ∃ x ∈ direct (ops.getD i default), k ∈ pre.getD x []
  ord : ∀ p, p < ops.size → ∀ k ∈ direct (ops.getD (at_ p) default), ∃ q, q < p ∧ q < ops.size ∧ at_ q = k
  inj : ∀ p q, p < ops.size → q < ops.size → p ≠ q → at_ p ≠ at_ q
  dst : ∀ p q, p < ops.size → q < ops.size → p ≠ q → ∀ t, (d p).o.dst = some t → (d q).o.dst ≠ some t
  use : ∀ p q, p < ops.size → q < ops.size → p ≠ q → ∀ t, (d q).o.dst = some t → t ∈ operU (d p).o → (q < p → at_ q ∈ pre.getD (at_ p) []) ∧ (¬ q < p → at_ p ∈ pre.getD (at_ q) [])
  later : ∀ p q, p < ops.size → q < ops.size → p < q → (d q).eff = true → isPure (d p).o.op = false → at_ p ∈ pre.getD (at_ q) []
  earlier : ∀ p q, p < ops.size → q < ops.size → q < p → (d q).eff = true → isPure (d p).o.op = false → at_ q ∈ pre.getD (at_ p) [] ∨ ((d p).eff = false ∧ cnt (fun x => (d x).eff) q p < (d p).back)
  kind : ∀ p, p < ops.size → (d p).eff = true ∨ isPure (d p).o.op = true ∨ isRead (d p).o.op = true

theorem okD_facts {ops : Array Oper} {pre : List (List Nat)} {ord : List Nat} {ds : List DOper} (h : okD ops pre ord ds = true) :
    ord.length = ops.size ∧ ds.length = ops.size ∧ DFacts ops pre (fun p => ord.getD p 0) (fun p => ds.getD p ⟨⟨none, none, .new []⟩, false, 0⟩) := by
  simp only [okD, Bool.and_eq_true, decide_eq_true_eq, List.all_eq_true, List.mem_range, Bool.or_eq_true, List.contains_iff_mem, List.any_eq_true, Bool.not_eq_true'] at h
  obtain ⟨⟨⟨⟨⟨⟨⟨h1, h2⟩, h3⟩, h4⟩, h5⟩, h6⟩, h7⟩, h8⟩ := h
  refine ⟨h1, h2, ⟨h3, fun i hi => ?_, fun i hi k hk => ?_, fun p hp k hk => ?_, fun p q hp hq hne => ?_, fun p q hp hq hne t ht => ?_, fun p q hp hq hne t ht hu => ?_, fun p q hp hq hlt he hn => ?_, fun p q hp hq hlt he hn => ?_, fun p hp => ?_⟩⟩
  · obtain ⟨p, hp⟩ := List.mem_iff_getElem?.1 (h4 i hi)
    exact ⟨p, by rw [← h1]; exact (List.getElem?_eq_some_iff.1 hp).1, by simp [hp]⟩
  · exact h5 i hi k hk
  · obtain ⟨q, hq, hq1, hq2⟩ := h6 p hp k hk
    exact ⟨q, hq1, hq, hq2⟩
  · rcases h7 p hp q hq with h | h
    · exact absurd h hne
    · exact h.1.1.1.1
  · rcases h7 p hp q hq with h | h
    · exact absurd h hne
    · rcases h.1.1.1.2 with h | h
      · have h := Option.isNone_iff_eq_none.1 h; rw [h] at ht; simp at ht
      · intro hq'; exact h (by rw [ht, hq'])
  · rcases h7 p hp q hq with h | h
    · exact absurd h hne
    · have h := h.1.1.2
      rw [ht] at h
      simp only [Bool.or_eq_true, Bool.not_eq_true'] at h
      rcases h with h | h
      · rw [List.contains_iff_mem.2 hu] at h; simp at h
      · refine ⟨fun hlt => ?_, fun hlt => ?_⟩
        · rw [if_pos hlt] at h; exact List.contains_iff_mem.1 h
        · rw [if_neg hlt] at h; exact List.contains_iff_mem.1 h
  · rcases h7 p hp q hq with h | h
    · omega
    · rcases h.1.2 with ((h | h) | h) | h
      · omega
      · rw [h] at he; simp at he
      · rw [h] at hn; simp at hn
      · exact h
  · rcases h7 p hp q hq with h | h
    · omega
    · rcases h.2 with (((h | h) | h) | h) | h
      · omega
      · rw [h] at he; simp at he
      · rw [h] at hn; simp at hn
      · exact .inl h
      · exact .inr ⟨by simpa using h.1, h.2⟩
  · rcases h8 p hp with (h | h) | h
    · exact .inl h
    · exact .inr (.inl h)
    · exact .inr (.inr h)

end Go.Proofs.Ytlbhbjaimcinbaa.AI
