/- What abstract values and memory stand for. -/
import Derived.Test.YtlbhbjaimcinbaaAI1
namespace Go.Proofs.Ytlbhbjaimcinbaa.AI
open Go

/-- Where an abstract block lies: its block, where it begins there, and how many cells it has (none: memory that is only read). -/
structure Bnd where
  blk : Nat
  off : Nat
  size : Option Nat

abbrev Map := Nat → Option Bnd

inductive VR (σ : Nat → Nat) (B : Map) : Value → Value → Prop where
  | atom (v : Value) : atom v = true → VR σ B v v
  | ptr (i o : Nat) (p : Bnd) : B i = some p → VR σ B (.pointer (some ⟨i, o, none⟩)) (.pointer (some ⟨p.blk, p.off + o, none⟩))
  | slice (i o n z c : Nat) (p : Bnd) : B i = some p → n ≤ c → (∀ s, p.size = some s → o + c * z ≤ s) →
      VR σ B (.slice (some ⟨i, o, none⟩) n z) (.slice (some ⟨p.blk, p.off + o, none⟩) n c)
  | empty (i o z c : Nat) (p : Bnd) (a : Option Addr) : B i = some p → p.size = none → VR σ B (.slice (some ⟨i, o, none⟩) 0 z) (.slice a 0 c)
  | agg (cs cs' : Array Value) : cs.toList.length = cs'.toList.length → (∀ (j : Nat) (x x' : Value), cs.toList[j]? = some x → cs'.toList[j]? = some x' → VR σ B x x') → VR σ B (.agg cs) (.agg cs')
  | tuple (cs cs' : Array Value) : cs.toList.length = cs'.toList.length → (∀ (j : Nat) (x x' : Value), cs.toList[j]? = some x → cs'.toList[j]? = some x' → VR σ B x x') → VR σ B (.tuple cs) (.tuple cs')
  | func (i : Nat) (f c f' c' : Array Value) : f.toList.length = f'.toList.length → (∀ (j : Nat) (x x' : Value), f.toList[j]? = some x → f'.toList[j]? = some x' → VR σ B x x') →
      c.toList.length = c'.toList.length → (∀ (j : Nat) (x x' : Value), c.toList[j]? = some x → c'.toList[j]? = some x' → VR σ B x x') → VR σ B (.func (.func i) f c) (.func (.func (σ i)) f' c')

def VRs (σ : Nat → Nat) (B : Map) (l l' : List Value) : Prop := l.length = l'.length ∧ ∀ (j : Nat) (x x' : Value), l[j]? = some x → l'[j]? = some x' → VR σ B x x'

def Ext (B B' : Map) : Prop := ∀ i p, B i = some p → B' i = some p
theorem Ext.refl (B : Map) : Ext B B := fun _ _ h => h
theorem Ext.trans {A B C : Map} (h : Ext A B) (k : Ext B C) : Ext A C := fun i p hp => k i p (h i p hp)

section
variable {σ : Nat → Nat} {B B' : Map}

theorem VR.mono (h : Ext B B') {v v' : Value} (r : VR σ B v v') : VR σ B' v v' := by
  induction r with
  | atom v ha => exact .atom v ha
  | ptr i o p hp => exact .ptr i o p (h i p hp)
  | slice i o n z c p hp hn hs => exact .slice i o n z c p (h i p hp) hn hs
  | empty i o z c p a hp hs => exact .empty i o z c p a (h i p hp) hs
  | agg cs cs' hl _ ih => exact .agg cs cs' hl fun j x x' hx hx' => ih j x x' hx hx'
  | tuple cs cs' hl _ ih => exact .tuple cs cs' hl fun j x x' hx hx' => ih j x x' hx hx'
  | func i f c f' c' h1 _ h2 _ i1 i2 => exact .func i f c f' c' h1 (fun j x x' hx hx' => i1 j x x' hx hx') h2 (fun j x x' hx hx' => i2 j x x' hx hx')

theorem VRs.mono (h : Ext B B') {l l' : List Value} (r : VRs σ B l l') : VRs σ B' l l' := ⟨r.1, fun j x x' a b => (r.2 j x x' a b).mono h⟩
theorem VRs.nil : VRs σ B [] [] := ⟨rfl, fun j x x' h => by simp at h⟩
theorem VRs.cons {v v' : Value} {l l' : List Value} (h : VR σ B v v') (r : VRs σ B l l') : VRs σ B (v :: l) (v' :: l') := by
  refine ⟨by simp [r.1], fun j x x' hx hx' => ?_⟩
  cases j with
  | zero => simp at hx hx'; subst hx; subst hx'; exact h
  | succ j => exact r.2 j x x' (by simpa using hx) (by simpa using hx')
theorem VRs.of_cons {v : Value} {l l' : List Value} (r : VRs σ B (v :: l) l') : ∃ v' m, l' = v' :: m ∧ VR σ B v v' ∧ VRs σ B l m := by
  cases l' with
  | nil => have := r.1; simp at this
  | cons v' m =>
    refine ⟨v', m, rfl, r.2 0 v v' rfl rfl, ⟨by have := r.1; simpa using this, fun j x x' hx hx' => r.2 (j + 1) x x' (by simpa using hx) (by simpa using hx')⟩⟩
theorem VRs.get {l l' : List Value} (r : VRs σ B l l') {j : Nat} {x : Value} (h : l[j]? = some x) : ∃ x', l'[j]? = some x' ∧ VR σ B x x' := by
  have hj : j < l'.length := by have := (List.getElem?_eq_some_iff.1 h).1; have := r.1; omega
  exact ⟨l'[j], List.getElem?_eq_getElem hj, r.2 j x _ h (List.getElem?_eq_getElem hj)⟩
theorem VRs.append {a a' b b' : List Value} (r : VRs σ B a a') (s : VRs σ B b b') : VRs σ B (a ++ b) (a' ++ b') := by
  refine ⟨by simp [r.1, s.1], fun j x x' hx hx' => ?_⟩
  rw [List.getElem?_append] at hx hx'
  rw [← r.1] at hx'
  split at hx
  · rw [if_pos ‹_›] at hx'; exact r.2 j x x' hx hx'
  · rw [if_neg ‹_›] at hx'; exact s.2 _ x x' hx hx'
theorem VRs.drop {a a' : List Value} (r : VRs σ B a a') (n : Nat) : VRs σ B (a.drop n) (a'.drop n) :=
  ⟨by simp [r.1], fun j x x' hx hx' => r.2 (n + j) x x' (by simpa using hx) (by simpa using hx')⟩
theorem VRs.take {a a' : List Value} (r : VRs σ B a a') (n : Nat) : VRs σ B (a.take n) (a'.take n) := by
  refine ⟨by simp [r.1], fun j x x' hx hx' => ?_⟩
  rw [List.getElem?_take] at hx hx'
  split at hx
  · rw [if_pos ‹_›] at hx'; exact r.2 j x x' hx hx'
  · simp at hx
theorem VRs.set {a a' : List Value} (r : VRs σ B a a') {v v' : Value} (h : VR σ B v v') (n : Nat) : VRs σ B (a.set n v) (a'.set n v') := by
  refine ⟨by simp [r.1], fun j x x' hx hx' => ?_⟩
  rw [List.getElem?_set] at hx hx'
  split at hx
  · rename_i e
    rw [if_pos e] at hx'
    split at hx
    · split at hx'
      · simp at hx hx'; subst hx; subst hx'; exact h
      · simp at hx'
    · simp at hx
  · rename_i e
    rw [if_neg e] at hx'
    exact r.2 j x x' hx hx'
theorem VRs.splice {vs vs' : List Value} (s : VRs σ B vs vs') : ∀ {a a' : List Value} (o : Nat), VRs σ B a a' → VRs σ B (AI.splice a o vs) (AI.splice a' o vs') := by
  induction vs generalizing vs' with
  | nil => intro a a' o r; have : vs' = [] := by have := s.1; simpa using this.symm
           subst this; exact r
  | cons v l ih =>
    obtain ⟨v', m, rfl, h, s'⟩ := s.of_cons
    intro a a' o r
    exact ih s' (o + 1) (r.set h o)
theorem VRs.of_flatten_replicate {l l' : List Value} (r : VRs σ B l l') : ∀ n, VRs σ B (List.replicate n l).flatten (List.replicate n l').flatten
  | 0 => VRs.nil
  | n + 1 => by simpa [List.replicate_succ] using r.append (VRs.of_flatten_replicate r n)

theorem VR.agg' {cs cs' : Array Value} (h : VRs σ B cs.toList cs'.toList) : VR σ B (.agg cs) (.agg cs') := .agg cs cs' h.1 h.2
theorem VR.tuple' {cs cs' : Array Value} (h : VRs σ B cs.toList cs'.toList) : VR σ B (.tuple cs) (.tuple cs') := .tuple cs cs' h.1 h.2

theorem VR.const : ∀ (d : Nat) (v : Value), constV d v = true → VR σ B v v := by
  intro d
  induction d with
  | zero => intro v h; simp [constV] at h
  | succ d ih =>
    intro v h
    have key : ∀ cs : Array Value, cs.toList.all (constV d) = true → VRs σ B cs.toList cs.toList := fun cs hc =>
      ⟨rfl, fun j x x' hx hx' => by
        rw [hx] at hx'; injection hx' with e; subst e
        exact ih x (List.all_eq_true.1 hc x (List.mem_of_getElem? hx))⟩
    cases v <;> first | exact .agg' (key _ (by simpa only [constV] using h)) | exact .tuple' (key _ (by simpa only [constV] using h)) | exact .atom _ (by simpa only [constV] using h)

theorem VRs.const {l : List Value} (h : l.all (constV 9) = true) : VRs σ B l l :=
  ⟨rfl, fun j x x' hx hx' => by rw [hx] at hx'; injection hx' with e; subst e; exact VR.const 9 x (List.all_eq_true.1 h x (List.mem_of_getElem? hx))⟩

def cut (n : Nat) (B : Map) : Map := fun i => if i < n then B i else none

theorem VR.cut (n : Nat) : ∀ (d : Nat) {v v' : Value}, idsB d n v = true → VR σ B v v' → VR σ (AI.cut n B) v v' := by
  intro d
  induction d with
  | zero => intro v v' h; simp [idsB] at h
  | succ d ih =>
    intro v v' h r
    have key : ∀ {cs cs' : List Value}, cs.all (idsB d n) = true → (∀ (j : Nat) (x x' : Value), cs[j]? = some x → cs'[j]? = some x' → VR σ B x x') → ∀ (j : Nat) (x x' : Value), cs[j]? = some x → cs'[j]? = some x' → VR σ (AI.cut n B) x x' :=
      fun hc hr j x x' hx hx' => ih (List.all_eq_true.1 hc x (List.mem_of_getElem? hx)) (hr j x x' hx hx')
    cases r with
    | atom v ha => exact .atom _ ha
    | ptr i o p hp => exact .ptr i o p (by have : i < n := by simpa [idsB] using h
                                           simp [AI.cut, this, hp])
    | slice i o m z c p hp hn hs => exact .slice i o m z c p (by have : i < n := by simpa [idsB] using h
                                                                 simp [AI.cut, this, hp]) hn hs
    | empty i o z c p a hp hs => exact .empty i o z c p a (by have : i < n := by simpa [idsB] using h
                                                              simp [AI.cut, this, hp]) hs
    | agg cs cs' hl hr => exact .agg _ _ hl (key (by simpa only [idsB] using h) hr)
    | tuple cs cs' hl hr => exact .tuple _ _ hl (key (by simpa only [idsB] using h) hr)
    | func i f c f' c' h1 r1 h2 r2 =>
      have hb : f.toList.all (idsB d n) = true ∧ c.toList.all (idsB d n) = true := by simpa only [idsB, Bool.and_eq_true] using h
      exact .func i _ _ _ _ h1 (key hb.1 r1) h2 (key hb.2 r2)

/-- One-cell values stand for one-cell values. -/
theorem VR.one {v v' : Value} (r : VR σ B v v') (h : AI.one v = true) : v'.oneCell' = true := by
  cases r with
  | atom v ha => cases v <;> first | rfl | simp [AI.one] at h
  | agg => simp [AI.one] at h
  | tuple => simp [AI.one] at h
  | _ => rfl
theorem VR.cells {v v' : Value} (r : VR σ B v v') : VRs σ B v.cells.toList v'.cells.toList := by
  have single : ∀ {a b : Value}, VR σ B a b → VRs σ B [a] [b] := fun h => VRs.nil.cons h
  cases r with
  | agg cs cs' hl hr => exact ⟨hl, hr⟩
  | atom v ha => cases v <;> first | exact single (.atom _ ha) | simp [AI.atom] at ha
  | tuple cs cs' hl hr => exact single (.tuple cs cs' hl hr)
  | ptr i o p hp => exact single (.ptr i o p hp)
  | slice i o n z c p hp hn hs => exact single (.slice i o n z c p hp hn hs)
  | empty i o z c p a hp hs => exact single (.empty i o z c p a hp hs)
  | func i f c f' c' h1 r1 h2 r2 => exact single (.func i f c f' c' h1 r1 h2 r2)

end

theorem splice_length (vs : List Value) : ∀ (l : List Value) (o : Nat), (splice l o vs).length = l.length := by
  induction vs with
  | nil => intro l o; rfl
  | cons v r ih => intro l o; simp [splice, ih]

theorem splice_append_left (vs : List Value) : ∀ (l m : List Value) (o : Nat), o + vs.length ≤ l.length → splice (l ++ m) o vs = splice l o vs ++ m := by
  induction vs with
  | nil => intro l m o _; rfl
  | cons v r ih =>
    intro l m o h
    simp only [List.length_cons] at h
    simp only [splice]
    rw [List.set_append_left _ _ (by omega), ih _ _ _ (by simp; omega)]

end Go.Proofs.Ytlbhbjaimcinbaa.AI
