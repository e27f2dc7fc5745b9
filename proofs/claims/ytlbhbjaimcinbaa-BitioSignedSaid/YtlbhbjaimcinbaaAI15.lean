/- A region whose order is open: whichever order is drawn, what comes of it is what the interpreter says. -/
import Derived.Test.YtlbhbjaimcinbaaAI14
namespace Go.Proofs.Ytlbhbjaimcinbaa.AI
open Go

/-! What an operation hangs on. -/
theorem ev_congr {e e' : Env} {x : Arg} (h : ∀ t ∈ argU x, lk e t = lk e' t) : ev e x = ev e' x := by
  cases x <;> simp only [ev]
  exact h _ (by simp [argU])
theorem evs_congr {e e' : Env} : ∀ {xs : List Arg}, (∀ t ∈ xs.flatMap argU, lk e t = lk e' t) → evs e xs = evs e' xs
  | [], _ => rfl
  | x :: xs, h => by
    simp only [evs]
    rw [ev_congr (x := x) (fun t ht => h t (by simp [ht])), evs_congr (xs := xs) (fun t ht => h t (by simp only [List.flatMap_cons, List.mem_append]; exact .inr ht))]
theorem evo_congr {e e' : Env} {x : Option Arg} (h : ∀ t ∈ optU x, lk e t = lk e' t) : evo e x = evo e' x := by
  cases x with
  | none => rfl
  | some x => simp only [evo]; rw [ev_congr h]
theorem evp_congr {e e' : Env} : ∀ {xs : List (Nat × Nat × Arg)}, (∀ t ∈ xs.flatMap (fun x => argU x.2.2), lk e t = lk e' t) → evp e xs = evp e' xs
  | [], _ => rfl
  | (o, s, x) :: xs, h => by
    simp only [evp]
    rw [ev_congr (x := x) (fun t ht => h t (by simp [ht])), evp_congr (xs := xs) (fun t ht => h t (by simp only [List.flatMap_cons, List.mem_append]; exact .inr ht))]

theorem aop_congr {op : AOp} {e e' : Env} {H : Heap} (h : ∀ t ∈ opU op, lk e t = lk e' t) : aop op e H = aop op e' H := by
  have two : ∀ {x y : Arg}, (∀ t ∈ argU x ++ argU y, lk e t = lk e' t) → ev e x = ev e' x ∧ ev e y = ev e' y := fun hh =>
    ⟨ev_congr fun t ht => hh t (by simp [ht]), ev_congr fun t ht => hh t (by simp [ht])⟩
  have ht := h
  cases op <;> simp only [opU] at ht
  case pick c x y =>
    have h1 : ev e c = ev e' c := ev_congr fun t hm => ht t (by simp [hm])
    have h2 : ev e x = ev e' x := ev_congr fun t hm => ht t (by simp [hm])
    have h3 : ev e y = ev e' y := ev_congr fun t hm => ht t (by simp [hm])
    simp only [aop, h1, h2, h3]
  case build z ps => simp only [aop, evp_congr ht]
  case buildS k n z ps => simp only [aop, evp_congr ht]
  case slS x lo hi =>
    have h1 : ev e x = ev e' x := ev_congr fun t hm => ht t (by simp [hm])
    have h2 : evo e lo = evo e' lo := evo_congr fun t hm => ht t (by simp [hm])
    have h3 : evo e hi = evo e' hi := evo_congr fun t hm => ht t (by simp [hm])
    simp only [aop, h1, h2, h3]
  case slA n k x lo hi =>
    have h1 : ev e x = ev e' x := ev_congr fun t hm => ht t (by simp [hm])
    have h2 : evo e lo = evo e' lo := evo_congr fun t hm => ht t (by simp [hm])
    have h3 : evo e hi = evo e' hi := evo_congr fun t hm => ht t (by simp [hm])
    simp only [aop, h1, h2, h3]
  case slL n x lo hi mx =>
    have h1 : ev e x = ev e' x := ev_congr fun t hm => ht t (by simp [hm])
    have h2 : evo e lo = evo e' lo := evo_congr fun t hm => ht t (by simp [hm])
    have h3 : evo e hi = evo e' hi := evo_congr fun t hm => ht t (by simp [hm])
    simp only [aop, h1, h2, h3]
  case mkF i f c =>
    have h1 : evs e f = evs e' f := evs_congr fun t hm => ht t (by simp only [List.flatMap_append, List.mem_append]; exact .inl hm)
    have h2 : evs e c = evs e' c := evs_congr fun t hm => ht t (by simp only [List.flatMap_append, List.mem_append]; exact .inr hm)
    simp only [aop, h1, h2]
  case minI xs => simp only [aop, evs_congr ht]
  case maxI xs => simp only [aop, evs_congr ht]
  case call f xs => rfl
  case callv f xs => rfl
  case new cs => rfl
  all_goals first
    | (simp only [aop, ev_congr ht]; done)
    | (obtain ⟨h1, h2⟩ := two ht; simp only [aop, h1, h2]; done)

theorem dval_congr {call : Nat → List Value → Heap → Option (Value × Heap)} {op : AOp} {e e' : Env} {H : Heap} (h : ∀ t ∈ opU op, lk e t = lk e' t) : dval call op e H = dval call op e' H := by
  cases op
  case call f xs => simp only [dval]; rw [evs_congr (by simpa only [opU] using h)]
  case callv f xs =>
    simp only [opU] at h
    have h1 : ev e f = ev e' f := ev_congr fun t hm => h t (by simp [hm])
    have h2 : evs e xs = evs e' xs := evs_congr fun t hm => h t (List.mem_append.2 (.inr hm))
    simp only [dval, h1, h2]
  all_goals (simp only [dval]; exact aop_congr h)

theorem want_congr {o : AOper} {e e' : Env} (h : ∀ t ∈ operU o, lk e t = lk e' t) : want o e = want o e' := by
  unfold want
  split
  · rfl
  · rename_i t b hg
    rw [h t (by simp [operU, hg])]

theorem map_heap {α : Type} (o : Option α) (f : α → Value) (H H2 : Heap) : o.map (fun x => (f x, H2)) = (o.map (fun x => (f x, H))).map fun x => (x.1, H2) := by cases o <;> rfl
theorem bind_heap {α : Type} {o : Option α} {f g : α → Option (Value × Heap)} {H2 : Heap} (h : ∀ a, g a = (f a).map fun x => (x.1, H2)) : o.bind g = (o.bind f).map fun x => (x.1, H2) := by cases o <;> simp [h]

theorem pure_map {op : AOp} (hp : isPure op = true) (e : Env) (H H2 : Heap) : aop op e H2 = (aop op e H).map fun x => (x.1, H2) := by
  cases op <;> simp only [isPure, Bool.false_eq_true] at hp <;> simp only [aop]
  all_goals first
    | exact map_heap _ (fun x => x) H H2
    | exact map_heap _ _ H H2
    | (exact bind_heap fun _ => map_heap _ _ H H2)
    | (exact bind_heap fun _ => map_heap _ (fun x => x) H H2)
    | (exact bind_heap fun _ => bind_heap fun _ => map_heap _ (fun x => x) H H2)
    | (exact bind_heap fun _ => bind_heap fun _ => map_heap _ _ H H2)
    | (split <;> first | rfl | exact map_heap _ (fun x => x) H H2 | exact map_heap _ _ H H2 | (split <;> first | rfl | exact map_heap _ (fun x => x) H H2 | exact map_heap _ _ H H2))
    | skip
  · exact bind_heap fun _ => bind_heap fun _ => bind_heap fun _ => bind_heap fun _ => by split <;> rfl
  · split
    · exact bind_heap fun ⟨l, h⟩ => by simp only; split <;> rfl
    · rfl
  · exact bind_heap fun _ => by split <;> first | rfl | (split <;> rfl)
  · exact bind_heap fun _ => by split <;> first | rfl | (split <;> rfl)

/-- The memory doesn't matter. -/
theorem pure_heap {op : AOp} (hp : isPure op = true) {e : Env} {H H1 : Heap} (H2 : Heap) {v : Value} (h : aop op e H = some (v, H1)) : H1 = H ∧ aop op e H2 = some (v, H2) := by
  have h1 := pure_map hp e H H
  have h2 := pure_map hp e H H2
  rw [h] at h1 h2
  simp at h1 h2
  exact ⟨h1, h2⟩

theorem read_heap {op : AOp} (hp : isRead op = true) {e : Env} {H H1 : Heap} {v : Value} (h : aop op e H = some (v, H1)) : H1 = H := by
  cases op <;> simp only [isRead, Bool.false_eq_true] at hp
  · simp only [aop] at h
    split at h
    · simp only [Option.bind_eq_some_iff, Option.map_eq_some_iff] at h
      obtain ⟨_, _, _, _, he⟩ := h
      injection he with _ e2; exact e2.symm
    · simp at h
  · simp only [aop, Option.bind_eq_some_iff, Option.map_eq_some_iff] at h
    obtain ⟨_, _, _, _, _, _, he⟩ := h
    injection he with _ e2; exact e2.symm
  · simp only [aop] at h
    split at h
    · simp only [Option.bind_eq_some_iff] at h
      obtain ⟨_, _, ⟨_, _⟩, _, h⟩ := h
      simp only at h
      split at h
      · injection h with h; injection h with _ e2; exact e2.symm
      · simp at h
    · simp at h

theorem sameV_eq : ∀ (d : Nat) (v v' : Value), sameV d v v' = true → v = v' := by
  intro d
  induction d with
  | zero => intro v v' h; simp [sameV] at h
  | succ d ih =>
    have key : ∀ (a b : List Value), sameV.sameL (sameV d) a b = true → a = b := by
      intro a
      induction a with
      | nil => intro b h; cases b <;> simp [sameV.sameL] at h ⊢
      | cons x a iha =>
        intro b h
        cases b with
        | nil => simp [sameV.sameL] at h
        | cons y b =>
          simp only [sameV.sameL, Bool.and_eq_true] at h
          rw [ih x y h.1, iha b h.2]
    intro v v' h
    unfold sameV at h
    split at h <;> first
      | (simp at h; done)
      | (simp only [beq_iff_eq] at h; rw [h])
      | (simp only [Bool.and_eq_true, decide_eq_true_eq] at h; rw [h.1, h.2]; done)
      | (simp only [Bool.and_eq_true, decide_eq_true_eq] at h; rw [h.1.1, h.1.2, h.2]; done)
      | (simp only [decide_eq_true_eq] at h; rw [h]; done)
      | rfl
      | skip
    · simp only [decide_eq_true_eq] at h
      rename_i a b
      have : a = b := by
        obtain ⟨⟨a⟩⟩ := a; obtain ⟨⟨b⟩⟩ := b
        simp at h; rw [h]
      rw [this]
    · rw [show _ = _ from Array.ext' (key _ _ h)]
    · rw [show _ = _ from Array.ext' (key _ _ h)]

end Go.Proofs.Ytlbhbjaimcinbaa.AI
