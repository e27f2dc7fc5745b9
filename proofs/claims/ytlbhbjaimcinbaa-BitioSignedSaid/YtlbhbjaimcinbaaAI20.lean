/- The interpreter without a bound on rounds, and how a function is reckoned through. -/
import Derived.Test.YtlbhbjaimcinbaaAI19
namespace Go.Proofs.Ytlbhbjaimcinbaa.AI
open Go

abbrev CallF := Nat → List Value → Heap → Option (Value × Heap)
def Le (c c' : CallF) : Prop := ∀ f vs H r, c f vs H = some r → c' f vs H = some r

section
variable {c c' : CallF}

theorem dval_mono (h : Le c c') {op : AOp} {e : Env} {H : Heap} {r : Value × Heap} (hd : dval c op e H = some r) : dval c' op e H = some r := by
  unfold dval at hd ⊢
  split at hd
  · simp only [Option.bind_eq_some_iff] at hd ⊢
    obtain ⟨vs, hvs, hd⟩ := hd
    exact ⟨vs, hvs, h _ _ _ _ hd⟩
  · split at hd
    · simp only [Option.bind_eq_some_iff] at hd ⊢
      obtain ⟨vs, hvs, hd⟩ := hd
      exact ⟨vs, hvs, h _ _ _ _ hd⟩
    · simp at hd
  · exact hd

theorem step_mono (h : Le c c') {o : AOper} {e : Env} {H : Heap} {r : Env × Heap} (hd : step c o e H = some r) : step c' o e H = some r := by
  unfold step at hd ⊢
  split at hd
  · simp only [does, Option.map_eq_some_iff] at hd ⊢
    obtain ⟨x, hx, he⟩ := hd
    exact ⟨x, dval_mono h hx, he⟩
  · exact hd
  · simp at hd

theorem aops_mono (h : Le c c') : ∀ {ops : List AOper} {e : Env} {H : Heap} {r : Env × Heap}, aops c ops e H = some r → aops c' ops e H = some r := by
  intro ops
  induction ops with
  | nil => intro e H r hd; exact hd
  | cons o ops ih =>
    intro e H r hd
    simp only [aops, Option.bind_eq_some_iff] at hd ⊢
    obtain ⟨x, hx, hd⟩ := hd
    exact ⟨x, step_mono h hx, ih hd⟩

theorem aopsD_mono (h : Le c c') : ∀ {ops : List DOper} {hist : List Heap} {e : Env} {H : Heap} {r : Env × Heap}, aopsD c ops hist e H = some r → aopsD c' ops hist e H = some r := by
  intro ops
  induction ops with
  | nil => intro hist e H r hd; exact hd
  | cons o ops ih =>
    intro hist e H r hd
    simp only [aopsD, Option.bind_eq_some_iff] at hd ⊢
    obtain ⟨x, hx, hd⟩ := hd
    refine ⟨x, step_mono h hx, ?_⟩
    split at hd
    · rename_i hb; rw [if_pos hb]; exact ih hd
    · simp at hd

theorem iter_mono {f g : Env → Heap → Out} (h : ∀ e H r, f e H = some r → g e H = some r) : ∀ {n m : Nat}, n ≤ m → ∀ {e : Env} {H : Heap} {r}, iter f n e H = some r → iter g m e H = some r := by
  intro n
  induction n with
  | zero => intro m _ e H r hd; simp [iter] at hd
  | succ n ih =>
    intro m hm e H r hd
    obtain ⟨m, rfl⟩ : ∃ k, m = k + 1 := ⟨m - 1, by omega⟩
    simp only [iter, Option.bind_eq_some_iff] at hd ⊢
    obtain ⟨⟨x, e1, H1⟩, hx, hd⟩ := hd
    refine ⟨(x, e1, H1), h _ _ _ hx, ?_⟩
    cases x with
    | normal => exact ih (by omega) hd
    | ret => exact hd
    | exit i => exact hd

theorem ax_mono (h : Le c c') {n m : Nat} (hnm : n ≤ m) : ∀ {k : ACode} {e : Env} {H : Heap} {r}, ax c n k e H = some r → ax c' m k e H = some r := by
  intro k
  induction k with
  | skip => intro e H r hd; exact hd
  | ret => intro e H r hd; exact hd
  | exit id => intro e H r hd; exact hd
  | seq a b iha ihb =>
    intro e H r hd
    simp only [ax, Option.bind_eq_some_iff] at hd ⊢
    obtain ⟨⟨x, e1, H1⟩, hx, hd⟩ := hd
    refine ⟨(x, e1, H1), iha hx, ?_⟩
    cases x with
    | normal => exact ihb hd
    | ret => exact hd
    | exit i => exact hd
  | cond q a b iha ihb =>
    intro e H r hd
    simp only [ax] at hd ⊢
    split at hd
    · exact iha hd
    · exact ihb hd
    · simp at hd
  | block id a iha =>
    intro e H r hd
    simp only [ax, Option.map_eq_some_iff] at hd ⊢
    obtain ⟨x, hx, hd⟩ := hd
    exact ⟨x, iha hx, hd⟩
  | loop a iha =>
    intro e H r hd
    simp only [ax] at hd ⊢
    exact iter_mono (fun e H r h => iha h) hnm hd
  | reg ops live =>
    intro e H r hd
    simp only [ax, Option.map_eq_some_iff] at hd ⊢
    obtain ⟨x, hx, hd⟩ := hd
    exact ⟨x, aops_mono h hx, hd⟩
  | regd ops live =>
    intro e H r hd
    simp only [ax, Option.map_eq_some_iff] at hd ⊢
    obtain ⟨x, hx, hd⟩ := hd
    exact ⟨x, aopsD_mono h hx, hd⟩
end

section
variable (tbl : Nat → Option AFn)

theorem ac_mono : ∀ {n m : Nat}, n ≤ m → Le (ac tbl n) (ac tbl m) := by
  intro n
  induction n with
  | zero => intro m _ f vs H r h; simp [ac] at h
  | succ n ih =>
    intro m hm f vs H r h
    obtain ⟨m, rfl⟩ : ∃ k, m = k + 1 := ⟨m - 1, by omega⟩
    simp only [ac, Option.bind_eq_some_iff] at h ⊢
    obtain ⟨F, hF, h⟩ := h
    refine ⟨F, hF, ?_⟩
    split at h
    · rename_i hl
      rw [if_pos hl]
      split at h
      · rename_i hiso
        rw [if_pos hiso]
        simp only [Option.bind_eq_some_iff] at h ⊢
        obtain ⟨x, hx, h⟩ := h
        exact ⟨x, ih (by omega) _ _ _ _ hx, h⟩
      · rename_i hiso
        rw [if_neg hiso]
        simp only [Option.bind_eq_some_iff] at h ⊢
        obtain ⟨x, hx, h⟩ := h
        exact ⟨x, ax_mono (ih (by omega)) (by omega) hx, h⟩
    · simp at h

/-- What a call comes to. -/
noncomputable def AC : CallF := fun f vs H => by
  classical exact if h : ∃ r, ∃ n, ac tbl n f vs H = some r then some h.choose else none

theorem AC_iff {f : Nat} {vs : List Value} {H : Heap} {r : Value × Heap} : AC tbl f vs H = some r ↔ ∃ n, ac tbl n f vs H = some r := by
  unfold AC
  constructor
  · intro h
    split at h
    · rename_i hx
      injection h with h
      rw [← h]; exact hx.choose_spec
    · simp at h
  · rintro ⟨n, hn⟩
    have hx : ∃ r, ∃ n, ac tbl n f vs H = some r := ⟨r, n, hn⟩
    rw [dif_pos hx]
    obtain ⟨m, hm⟩ := hx.choose_spec
    have h1 := ac_mono tbl (Nat.le_max_left n m) _ _ _ _ hn
    have h2 := ac_mono tbl (Nat.le_max_right n m) _ _ _ _ hm
    rw [h1] at h2
    injection h2 with h2
    rw [← h2]

theorem ac_AC (n : Nat) : Le (ac tbl n) (AC tbl) := fun _ _ _ _ h => (AC_iff tbl).2 ⟨n, h⟩

theorem AC_sound {P : Program} {σ : Nat → Nat} {base : Nat} (hm : P.follows .mixedOrders = true) (hl : Linked P σ tbl) : CallOK P σ base (AC tbl) := by
  intro f vs H v H' h
  obtain ⟨n, hn⟩ := (AC_iff tbl).1 h
  exact ac_sound hm hl n f vs H v H' hn

variable {tbl}
theorem dval_fin {op : AOp} {e : Env} {H : Heap} {r : Value × Heap} (h : dval (AC tbl) op e H = some r) : ∃ n, dval (ac tbl n) op e H = some r := by
  unfold dval at h ⊢
  split at h
  · simp only [Option.bind_eq_some_iff] at h ⊢
    obtain ⟨vs, hvs, h⟩ := h
    obtain ⟨n, hn⟩ := (AC_iff tbl).1 h
    exact ⟨n, vs, hvs, hn⟩
  · split at h
    · simp only [Option.bind_eq_some_iff] at h ⊢
      obtain ⟨vs, hvs, h⟩ := h
      obtain ⟨n, hn⟩ := (AC_iff tbl).1 h
      exact ⟨n, vs, hvs, hn⟩
    · simp at h
  · exact ⟨0, h⟩

theorem step_fin {o : AOper} {e : Env} {H : Heap} {r : Env × Heap} (h : step (AC tbl) o e H = some r) : ∃ n, step (ac tbl n) o e H = some r := by
  unfold step at h ⊢
  split at h
  · simp only [does, Option.map_eq_some_iff] at h
    obtain ⟨x, hx, he⟩ := h
    obtain ⟨n, hn⟩ := dval_fin hx
    exact ⟨n, by simp only [does, Option.map_eq_some_iff]; exact ⟨x, hn, he⟩⟩
  · exact ⟨0, h⟩
  · simp at h

theorem aops_fin : ∀ {ops : List AOper} {e : Env} {H : Heap} {r : Env × Heap}, aops (AC tbl) ops e H = some r → ∃ n, aops (ac tbl n) ops e H = some r := by
  intro ops
  induction ops with
  | nil => intro e H r h; exact ⟨0, h⟩
  | cons o ops ih =>
    intro e H r h
    simp only [aops, Option.bind_eq_some_iff] at h
    obtain ⟨x, hx, h⟩ := h
    obtain ⟨n, hn⟩ := step_fin hx
    obtain ⟨m, hm⟩ := ih h
    refine ⟨max n m, ?_⟩
    simp only [aops, Option.bind_eq_some_iff]
    exact ⟨x, step_mono (ac_mono tbl (Nat.le_max_left n m)) hn, aops_mono (ac_mono tbl (Nat.le_max_right n m)) hm⟩

theorem aopsD_fin : ∀ {ops : List DOper} {hist : List Heap} {e : Env} {H : Heap} {r : Env × Heap}, aopsD (AC tbl) ops hist e H = some r → ∃ n, aopsD (ac tbl n) ops hist e H = some r := by
  intro ops
  induction ops with
  | nil => intro hist e H r h; exact ⟨0, h⟩
  | cons o ops ih =>
    intro hist e H r h
    simp only [aopsD, Option.bind_eq_some_iff] at h
    obtain ⟨x, hx, h⟩ := h
    split at h
    · rename_i hb
      obtain ⟨n, hn⟩ := step_fin hx
      obtain ⟨m, hm⟩ := ih h
      refine ⟨max n m, ?_⟩
      simp only [aopsD, Option.bind_eq_some_iff]
      exact ⟨x, step_mono (ac_mono tbl (Nat.le_max_left n m)) hn, by rw [if_pos hb]; exact aopsD_mono (ac_mono tbl (Nat.le_max_right n m)) hm⟩
    · simp at h

theorem ax_fin {k : Nat} : ∀ {c : ACode} {e : Env} {H : Heap} {r}, ax (AC tbl) k c e H = some r → ∃ n, ax (ac tbl n) k c e H = some r := by
  intro c
  induction c with
  | skip => intro e H r h; exact ⟨0, h⟩
  | ret => intro e H r h; exact ⟨0, h⟩
  | exit id => intro e H r h; exact ⟨0, h⟩
  | seq a b iha ihb =>
    intro e H r h
    simp only [ax, Option.bind_eq_some_iff] at h
    obtain ⟨⟨x, e1, H1⟩, hx, h⟩ := h
    obtain ⟨n, hn⟩ := iha hx
    cases x with
    | normal =>
      obtain ⟨m, hm⟩ := ihb h
      refine ⟨max n m, ?_⟩
      simp only [ax, Option.bind_eq_some_iff]
      exact ⟨_, ax_mono (ac_mono tbl (Nat.le_max_left n m)) (Nat.le_refl _) hn, ax_mono (ac_mono tbl (Nat.le_max_right n m)) (Nat.le_refl _) hm⟩
    | ret => exact ⟨n, by simp only [ax, Option.bind_eq_some_iff]; exact ⟨_, hn, h⟩⟩
    | exit i => exact ⟨n, by simp only [ax, Option.bind_eq_some_iff]; exact ⟨_, hn, h⟩⟩
  | cond q a b iha ihb =>
    intro e H r h
    simp only [ax] at h ⊢
    split at h
    · exact iha h
    · exact ihb h
    · simp at h
  | block id a iha =>
    intro e H r h
    simp only [ax, Option.map_eq_some_iff] at h ⊢
    obtain ⟨x, hx, h⟩ := h
    obtain ⟨n, hn⟩ := iha hx
    exact ⟨n, x, hn, h⟩
  | loop a iha =>
    intro e H r h
    simp only [ax] at h ⊢
    have key : ∀ (k' : Nat) {e : Env} {H : Heap} {r}, iter (ax (AC tbl) k a) k' e H = some r → ∃ n, iter (ax (ac tbl n) k a) k' e H = some r := by
      intro k'
      induction k' with
      | zero => intro e H r h; simp [iter] at h
      | succ k' ih =>
        intro e H r h
        simp only [iter, Option.bind_eq_some_iff] at h
        obtain ⟨⟨x, e1, H1⟩, hx, h⟩ := h
        obtain ⟨n, hn⟩ := iha hx
        cases x with
        | normal =>
          obtain ⟨m, hm⟩ := ih h
          refine ⟨max n m, ?_⟩
          simp only [iter, Option.bind_eq_some_iff]
          exact ⟨_, ax_mono (ac_mono tbl (Nat.le_max_left n m)) (Nat.le_refl _) hn, iter_mono (fun e H r h => ax_mono (ac_mono tbl (Nat.le_max_right n m)) (Nat.le_refl _) h) (Nat.le_refl _) hm⟩
        | ret => exact ⟨n, by simp only [iter, Option.bind_eq_some_iff]; exact ⟨_, hn, h⟩⟩
        | exit i => exact ⟨n, by simp only [iter, Option.bind_eq_some_iff]; exact ⟨_, hn, h⟩⟩
    exact key k h
  | reg ops live =>
    intro e H r h
    simp only [ax, Option.map_eq_some_iff] at h ⊢
    obtain ⟨x, hx, h⟩ := h
    obtain ⟨n, hn⟩ := aops_fin hx
    exact ⟨n, x, hn, h⟩
  | regd ops live =>
    intro e H r h
    simp only [ax, Option.map_eq_some_iff] at h ⊢
    obtain ⟨x, hx, h⟩ := h
    obtain ⟨n, hn⟩ := aopsD_fin hx
    exact ⟨n, x, hn, h⟩

/-! ## Reckoning through a text: what holds at its end -/
variable (tbl)
def AW (c : ACode) (e : Env) (H : Heap) (Q : AExit → Env → Heap → Prop) : Prop := ∃ n x e' H', ax (AC tbl) n c e H = some (x, e', H') ∧ Q x e' H'
def AO (ops : List AOper) (e : Env) (H : Heap) (Q : Env → Heap → Prop) : Prop := ∃ e' H', aops (AC tbl) ops e H = some (e', H') ∧ Q e' H'
def AOD (ops : List DOper) (hist : List Heap) (e : Env) (H : Heap) (Q : Env → Heap → Prop) : Prop := ∃ e' H', aopsD (AC tbl) ops hist e H = some (e', H') ∧ Q e' H'
variable {tbl}
variable {e : Env} {H : Heap} {Q : AExit → Env → Heap → Prop}

theorem Le.refl (c : CallF) : Le c c := fun _ _ _ _ h => h

theorem AW.mono {c : ACode} {Q' : AExit → Env → Heap → Prop} (h : AW tbl c e H Q) (hq : ∀ x e H, Q x e H → Q' x e H) : AW tbl c e H Q' := by
  obtain ⟨n, x, e', H', h1, h2⟩ := h
  exact ⟨n, x, e', H', h1, hq _ _ _ h2⟩

theorem AW_skip : AW tbl .skip e H Q = Q .normal e H := by
  apply propext; constructor
  · rintro ⟨n, x, e', H', h, hq⟩
    simp only [ax, Option.some.injEq, Prod.mk.injEq] at h
    obtain ⟨rfl, rfl, rfl⟩ := h; exact hq
  · intro h; exact ⟨0, _, _, _, rfl, h⟩
theorem AW_ret : AW tbl .ret e H Q = Q .ret e H := by
  apply propext; constructor
  · rintro ⟨n, x, e', H', h, hq⟩
    simp only [ax, Option.some.injEq, Prod.mk.injEq] at h
    obtain ⟨rfl, rfl, rfl⟩ := h; exact hq
  · intro h; exact ⟨0, _, _, _, rfl, h⟩
theorem AW_exit {id : Nat} : AW tbl (.exit id) e H Q = Q (.exit id) e H := by
  apply propext; constructor
  · rintro ⟨n, x, e', H', h, hq⟩
    simp only [ax, Option.some.injEq, Prod.mk.injEq] at h
    obtain ⟨rfl, rfl, rfl⟩ := h; exact hq
  · intro h; exact ⟨0, _, _, _, rfl, h⟩

/-- What follows a part that has ended. -/
def Then (K : Env → Heap → Prop) (Q : AExit → Env → Heap → Prop) : AExit → Env → Heap → Prop
  | .normal, e, H => K e H
  | x, e, H => Q x e H
theorem Then_normal {K : Env → Heap → Prop} : Then K Q .normal e H = K e H := rfl
theorem Then_ret {K : Env → Heap → Prop} : Then K Q .ret e H = Q .ret e H := rfl
theorem Then_exit {K : Env → Heap → Prop} {id : Nat} : Then K Q (.exit id) e H = Q (.exit id) e H := rfl

theorem AW_seq {a b : ACode} : AW tbl (.seq a b) e H Q = AW tbl a e H (Then (fun e H => AW tbl b e H Q) Q) := by
  apply propext; constructor
  · rintro ⟨n, x, e', H', h, hq⟩
    simp only [ax, Option.bind_eq_some_iff] at h
    obtain ⟨⟨x1, e1, H1⟩, h1, h⟩ := h
    refine ⟨n, x1, e1, H1, h1, ?_⟩
    cases x1 with
    | normal => exact ⟨n, x, e', H', h, hq⟩
    | ret => simp only [Option.some.injEq, Prod.mk.injEq] at h; obtain ⟨rfl, rfl, rfl⟩ := h; exact hq
    | exit i => simp only [Option.some.injEq, Prod.mk.injEq] at h; obtain ⟨rfl, rfl, rfl⟩ := h; exact hq
  · rintro ⟨n, x1, e1, H1, h1, hq⟩
    cases x1 with
    | normal =>
      obtain ⟨m, x, e', H', h, hq⟩ := hq
      refine ⟨max n m, x, e', H', ?_, hq⟩
      simp only [ax, Option.bind_eq_some_iff]
      exact ⟨_, ax_mono (Le.refl _) (Nat.le_max_left n m) h1, ax_mono (Le.refl _) (Nat.le_max_right n m) h⟩
    | ret => exact ⟨n, _, _, _, by simp only [ax, Option.bind_eq_some_iff]; exact ⟨_, h1, rfl⟩, hq⟩
    | exit i => exact ⟨n, _, _, _, by simp only [ax, Option.bind_eq_some_iff]; exact ⟨_, h1, rfl⟩, hq⟩

theorem AW_cond {c : Arg} {a b : ACode} : AW tbl (.cond c a b) e H Q = ((ev e c = some (.bool true) ∧ AW tbl a e H Q) ∨ (ev e c = some (.bool false) ∧ AW tbl b e H Q)) := by
  apply propext; constructor
  · rintro ⟨n, x, e', H', h, hq⟩
    simp only [ax] at h
    split at h
    · exact .inl ⟨‹_›, n, x, e', H', h, hq⟩
    · exact .inr ⟨‹_›, n, x, e', H', h, hq⟩
    · simp at h
  · rintro (⟨hc, n, x, e', H', h, hq⟩ | ⟨hc, n, x, e', H', h, hq⟩)
    · exact ⟨n, x, e', H', by simp only [ax, hc]; exact h, hq⟩
    · exact ⟨n, x, e', H', by simp only [ax, hc]; exact h, hq⟩

def InBlock (id : Nat) (Q : AExit → Env → Heap → Prop) : AExit → Env → Heap → Prop := fun x e H => Q (if x = .exit id then .normal else x) e H
theorem InBlock_normal {id : Nat} : InBlock id Q .normal e H = Q .normal e H := by simp [InBlock]
theorem InBlock_ret {id : Nat} : InBlock id Q .ret e H = Q .ret e H := by simp [InBlock]
theorem InBlock_self {id : Nat} : InBlock id Q (.exit id) e H = Q .normal e H := by simp [InBlock]
theorem InBlock_exit {id j : Nat} : InBlock id Q (.exit j) e H = if j = id then Q .normal e H else Q (.exit j) e H := by
  by_cases h : j = id <;> simp [InBlock, h]
theorem AW_block {id : Nat} {a : ACode} : AW tbl (.block id a) e H Q = AW tbl a e H (InBlock id Q) := by
  apply propext; constructor
  · rintro ⟨n, x, e', H', h, hq⟩
    simp only [ax, Option.map_eq_some_iff] at h
    obtain ⟨⟨x1, e1, H1⟩, h1, he⟩ := h
    simp only [Prod.mk.injEq] at he
    obtain ⟨rfl, rfl, rfl⟩ := he
    exact ⟨n, x1, e1, H1, h1, hq⟩
  · rintro ⟨n, x, e', H', h, hq⟩
    exact ⟨n, _, e', H', by simp only [ax, Option.map_eq_some_iff]; exact ⟨_, h, rfl⟩, hq⟩

/-- One round of a loop. -/
theorem AW_loop {a : ACode} : AW tbl (.loop a) e H Q = AW tbl a e H (Then (fun e H => AW tbl (.loop a) e H Q) Q) := by
  apply propext; constructor
  · rintro ⟨n, x, e', H', h, hq⟩
    simp only [ax] at h
    cases n with
    | zero => simp [iter] at h
    | succ n =>
      simp only [iter, Option.bind_eq_some_iff] at h
      obtain ⟨⟨x1, e1, H1⟩, h1, h⟩ := h
      refine ⟨n + 1, x1, e1, H1, h1, ?_⟩
      cases x1 with
      | normal => exact ⟨n + 1, x, e', H', by simp only [ax]; exact iter_mono (fun _ _ _ h => h) (by omega) h, hq⟩
      | ret => simp only [Option.some.injEq, Prod.mk.injEq] at h; obtain ⟨rfl, rfl, rfl⟩ := h; exact hq
      | exit i => simp only [Option.some.injEq, Prod.mk.injEq] at h; obtain ⟨rfl, rfl, rfl⟩ := h; exact hq
  · rintro ⟨n, x1, e1, H1, h1, hq⟩
    cases x1 with
    | normal =>
      obtain ⟨m, x, e', H', h, hq⟩ := hq
      refine ⟨max n m + 1, x, e', H', ?_, hq⟩
      simp only [ax, iter, Option.bind_eq_some_iff] at h ⊢
      exact ⟨_, ax_mono (Le.refl _) (by omega) h1, iter_mono (fun _ _ _ h => ax_mono (Le.refl _) (by omega) h) (by omega) h⟩
    | ret => exact ⟨n + 1, _, _, _, by simp only [ax, iter, Option.bind_eq_some_iff]; exact ⟨_, ax_mono (Le.refl _) (by omega) h1, rfl⟩, hq⟩
    | exit i => exact ⟨n + 1, _, _, _, by simp only [ax, iter, Option.bind_eq_some_iff]; exact ⟨_, ax_mono (Le.refl _) (by omega) h1, rfl⟩, hq⟩

theorem AW_reg {ops : List AOper} {live : List Nat} : AW tbl (.reg ops live) e H Q = AO tbl ops e H (fun e H => Q .normal (keep e live) H) := by
  apply propext; constructor
  · rintro ⟨n, x, e', H', h, hq⟩
    simp only [ax, Option.map_eq_some_iff] at h
    obtain ⟨⟨e1, H1⟩, h1, he⟩ := h
    simp only [Prod.mk.injEq] at he
    obtain ⟨rfl, rfl, rfl⟩ := he
    exact ⟨e1, H1, h1, hq⟩
  · rintro ⟨e', H', h, hq⟩
    exact ⟨0, _, _, _, by simp only [ax, Option.map_eq_some_iff]; exact ⟨_, h, rfl⟩, hq⟩
theorem AW_regd {ops : List DOper} {live : List Nat} : AW tbl (.regd ops live) e H Q = AOD tbl ops [] e H (fun e H => Q .normal (keep e live) H) := by
  apply propext; constructor
  · rintro ⟨n, x, e', H', h, hq⟩
    simp only [ax, Option.map_eq_some_iff] at h
    obtain ⟨⟨e1, H1⟩, h1, he⟩ := h
    simp only [Prod.mk.injEq] at he
    obtain ⟨rfl, rfl, rfl⟩ := he
    exact ⟨e1, H1, h1, hq⟩
  · rintro ⟨e', H', h, hq⟩
    exact ⟨0, _, _, _, by simp only [ax, Option.map_eq_some_iff]; exact ⟨_, h, rfl⟩, hq⟩

variable {R : Env → Heap → Prop}
theorem AO_nil : AO tbl [] e H R = R e H := by
  apply propext; constructor
  · rintro ⟨e', H', h, hq⟩
    simp only [aops, Option.some.injEq, Prod.mk.injEq] at h
    obtain ⟨rfl, rfl⟩ := h; exact hq
  · intro h; exact ⟨e, H, rfl, h⟩
/-- An operation's value, and what holds with it. -/
def Op1 (r : Option (Value × Heap)) (K : Value → Heap → Prop) : Prop := ∃ v H', r = some (v, H') ∧ K v H'
theorem Op1_some {v : Value} {H' : Heap} {K : Value → Heap → Prop} : Op1 (some (v, H')) K = K v H' := by
  apply propext; constructor
  · rintro ⟨v1, H1, h, hk⟩; injection h with h; injection h with h1 h2; subst h1; subst h2; exact hk
  · intro h; exact ⟨v, H', rfl, h⟩
theorem AO_op {d : Option Nat} {op : AOp} {r : List AOper} : AO tbl (⟨d, none, op⟩ :: r) e H R = Op1 (dval (AC tbl) op e H) (fun v H' => AO tbl r (putE e d v) H' R) := by
  apply propext; constructor
  · rintro ⟨e', H', h, hq⟩
    simp only [aops, step, want, does, Option.bind_eq_some_iff, Option.map_eq_some_iff] at h
    obtain ⟨⟨e1, H1⟩, ⟨⟨v, H2⟩, hv, he⟩, h⟩ := h
    simp only [Prod.mk.injEq] at he
    obtain ⟨rfl, rfl⟩ := he
    exact ⟨v, H2, hv, e', H', h, hq⟩
  · rintro ⟨v, H2, hv, e', H', h, hq⟩
    exact ⟨e', H', by simp only [aops, step, want, does, Option.bind_eq_some_iff, Option.map_eq_some_iff]; exact ⟨_, ⟨_, hv, rfl⟩, h⟩, hq⟩
theorem AO_guard {d : Option Nat} {t : Nat} {b c : Bool} {op : AOp} {r : List AOper} (hl : lk e t = some (.bool c)) :
    AO tbl (⟨d, some (t, b), op⟩ :: r) e H R = if c = b then AO tbl (⟨d, none, op⟩ :: r) e H R else AO tbl r (putE e d undef) H R := by
  by_cases h : c = b
  · rw [if_pos h]
    subst h
    unfold AO
    simp only [aops, step, want, hl, beq_self_eq_true, does]
  · rw [if_neg h]
    have : (c == b) = false := by simpa using h
    unfold AO
    simp only [aops, step, want, hl, this, Option.bind_some]
theorem AOD_nil {hist : List Heap} : AOD tbl [] hist e H R = R e H := by
  apply propext; constructor
  · rintro ⟨e', H', h, hq⟩
    simp only [aopsD, Option.some.injEq, Prod.mk.injEq] at h
    obtain ⟨rfl, rfl⟩ := h; exact hq
  · intro h; exact ⟨e, H, rfl, h⟩
theorem AOD_op {d : Option Nat} {op : AOp} {eff : Bool} {back : Nat} {r : List DOper} {hist : List Heap} : AOD tbl (⟨⟨d, none, op⟩, eff, back⟩ :: r) hist e H R =
    Op1 (dval (AC tbl) op e H) (fun v H' => okBack ⟨⟨d, none, op⟩, eff, back⟩ hist e H = true ∧ AOD tbl r (if eff then H :: hist else hist) (putE e d v) H' R) := by
  apply propext; constructor
  · rintro ⟨e', H', h, hq⟩
    simp only [aopsD, step, want, does, Option.bind_eq_some_iff, Option.map_eq_some_iff] at h
    obtain ⟨⟨e1, H1⟩, ⟨⟨v, H2⟩, hv, he⟩, h⟩ := h
    simp only [Prod.mk.injEq] at he
    obtain ⟨rfl, rfl⟩ := he
    split at h
    · rename_i hb; exact ⟨v, H2, hv, hb, e', H', h, hq⟩
    · simp at h
  · rintro ⟨v, H2, hv, hb, e', H', h, hq⟩
    exact ⟨e', H', by simp only [aopsD, step, want, does, Option.bind_eq_some_iff, Option.map_eq_some_iff]; exact ⟨_, ⟨_, hv, rfl⟩, by rw [if_pos hb]; exact h⟩, hq⟩
theorem AOD_guard {d : Option Nat} {t : Nat} {b c : Bool} {op : AOp} {eff : Bool} {back : Nat} {r : List DOper} {hist : List Heap} (hl : lk e t = some (.bool c)) :
    AOD tbl (⟨⟨d, some (t, b), op⟩, eff, back⟩ :: r) hist e H R = if c = b then Op1 (dval (AC tbl) op e H) (fun v H' => okBack ⟨⟨d, none, op⟩, eff, back⟩ hist e H = true ∧ AOD tbl r (if eff then H :: hist else hist) (putE e d v) H' R)
      else AOD tbl r (if eff then H :: hist else hist) (putE e d undef) H R := by
  by_cases h : c = b
  · rw [if_pos h, ← AOD_op]
    subst h
    unfold AOD
    simp only [aopsD, step, want, hl, beq_self_eq_true, does, okBack]
    rfl
  · rw [if_neg h]
    have : (c == b) = false := by simpa using h
    unfold AOD
    simp only [aopsD, step, want, hl, this, Option.bind_some, okBack]
    simp

/-- A function that is reckoned in a memory of its own. -/
theorem AC_iso {f : Nat} {vs : List Value} {F : AFn} {v : Value} (hF : tbl f = some F) (hl : vs.length ≤ F.ntmps) (hi : F.iso = true) (hvs : vs.all (constV 9) = true) (hv : constV 9 v = true)
    (h : AC tbl f vs [] = some (v, [])) (H : Heap) : AC tbl f vs H = some (v, H) := by
  cases H with
  | nil => exact h
  | cons b H =>
    obtain ⟨n, hn⟩ := (AC_iff tbl).1 h
    refine (AC_iff tbl).2 ⟨n + 1, ?_⟩
    simp only [ac, Option.bind_eq_some_iff]
    refine ⟨F, hF, ?_⟩
    rw [if_pos hl, if_pos (by simp [hi, hvs])]
    simp only [Option.bind_eq_some_iff]
    exact ⟨_, hn, by simp [hv]⟩

/-- A function, out of its body. -/
theorem AC_of {f : Nat} {vs : List Value} {F : AFn} {r : Value × Heap} (hF : tbl f = some F) (hl : vs.length ≤ F.ntmps) (hi : F.iso = false ∨ H = [])
    (h : AW tbl F.body (argsE 0 vs) H fun x e' H' => (∀ i, x ≠ .exit i) ∧ ∃ rvs, ares e' H' F.results = some rvs ∧ fin F.trunc H.length (tup rvs) H' = r) : AC tbl f vs H = some r := by
  obtain ⟨n, x, e', H', hax, hx, rvs, hrvs, hfin⟩ := h
  obtain ⟨m, hm⟩ := ax_fin hax
  refine (AC_iff tbl).2 ⟨max n m + 1, ?_⟩
  simp only [ac, Option.bind_eq_some_iff]
  refine ⟨F, hF, ?_⟩
  rw [if_pos hl, if_neg (by rcases hi with hi | rfl <;> simp [*])]
  simp only [Option.bind_eq_some_iff]
  refine ⟨(x, e', H'), ax_mono (ac_mono tbl (Nat.le_max_right n m)) (Nat.le_max_left n m) hm, ?_⟩
  cases x with
  | exit i => exact absurd rfl (hx i)
  | normal => simp only [hrvs, Option.map_some, hfin]
  | ret => simp only [hrvs, Option.map_some, hfin]
end

end Go.Proofs.Ytlbhbjaimcinbaa.AI
