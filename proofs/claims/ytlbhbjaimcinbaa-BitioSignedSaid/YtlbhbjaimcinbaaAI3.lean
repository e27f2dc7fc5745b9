/- How an abstract memory lies in the machine's, and what keeps it there. -/
import Derived.Test.YtlbhbjaimcinbaaAI2
import Derived.WalkKit
namespace Go.Proofs.Ytlbhbjaimcinbaa.AI
open Go

structure HR (σ : Nat → Nat) (base : Nat) (B : Map) (H : Heap) (w : World) : Prop where
  rw : ∀ (i : Nat) (b : Blk), hget H i = some b → b.rw = true → ∃ (g f z : Nat) (cs : List Value) (ty : TypeId) (fr : Nat × Nat),
    B i = some ⟨g, f, some z⟩ ∧ base ≤ g ∧ w.heap[g]? = some (.cells ⟨cs⟩ ty fr) ∧ cs.length = f + z ∧ (∀ o, o < cs.length → ¬ (fr.1 ≤ o ∧ o < fr.2)) ∧
      b.cells.length ≤ z ∧ VRs σ B b.cells ((cs.drop f).take b.cells.length)
  ro : ∀ (i : Nat) (b : Blk), hget H i = some b → b.rw = false → ∃ g o, B i = some ⟨g, o, none⟩ ∧ g < base ∧
    ∀ (j : Nat) (x : Value), b.cells[j]? = some x → ∃ x', w.cell? ⟨g, o + j, none⟩ = some x' ∧ VR σ B x x'
  inj : ∀ (i j : Nat) (b c : Blk) (p q : Bnd), hget H i = some b → hget H j = some c → b.rw = true → c.rw = true → B i = some p → B j = some q → p.blk = q.blk → i = j
  dom : ∀ (i : Nat) (p : Bnd), B i = some p → i < H.length
  big : base ≤ w.heap.size

/-- The machine's blocks that may be written. -/
def Mp (B : Map) (H : Heap) (g : Nat) : Prop := ∃ (i : Nat) (b : Blk) (p : Bnd), hget H i = some b ∧ b.rw = true ∧ B i = some p ∧ p.blk = g

structure Stp (B : Map) (H : Heap) (w : World) (B' : Map) (H' : Heap) (w' : World) : Prop where
  ext : Ext B B'
  os : w'.os = w.os
  tape : w'.tape = w.tape
  output : w'.output = w.output
  size : w.heap.size ≤ w'.heap.size
  keep : ∀ g, g < w.heap.size → ¬ Mp B H g → w'.heap[g]? = w.heap[g]?
  own : ∀ g, Mp B' H' g → Mp B H g ∨ w.heap.size ≤ g

theorem Stp.refl (B : Map) (H : Heap) (w : World) : Stp B H w B H w := ⟨.refl _, rfl, rfl, rfl, Nat.le_refl _, fun _ _ _ => rfl, fun _ h => .inl h⟩
theorem Stp.trans {B B1 B2 : Map} {H H1 H2 : Heap} {w w1 w2 : World} (h : Stp B H w B1 H1 w1) (k : Stp B1 H1 w1 B2 H2 w2) : Stp B H w B2 H2 w2 := by
  refine ⟨h.ext.trans k.ext, k.os.trans h.os, k.tape.trans h.tape, k.output.trans h.output, Nat.le_trans h.size k.size, fun g hg hm => ?_, fun g hm => ?_⟩
  · rw [k.keep g (Nat.lt_of_lt_of_le hg h.size) (fun m => by rcases h.own g m with m' | m'; exact hm m'; omega)]
    exact h.keep g hg hm
  · rcases k.own g hm with m | m
    · exact h.own g m
    · have := h.size; exact .inr (by omega)

theorem hget_lt {H : Heap} {i : Nat} {b : Blk} (h : hget H i = some b) : i < H.length := by
  unfold hget at h
  cases hi : H[i]? with
  | none => simp [hi] at h
  | some x => exact (List.getElem?_eq_some_iff.1 hi).1

section
variable {σ : Nat → Nat} {base : Nat} {B : Map} {H : Heap} {w : World}

/-- Only draws. -/
theorem HR.same {w' : World} (h : HR σ base B H w) (e : w'.heap = w.heap) : HR σ base B H w' := by
  refine ⟨fun i b hi hb => ?_, fun i b hi hb => ?_, h.inj, h.dom, by rw [e]; exact h.big⟩
  · rw [e]; exact h.rw i b hi hb
  · have : ∀ a, w'.cell? a = w.cell? a := fun a => by simp [World.cell?, e]
    simpa only [this] using h.ro i b hi hb
theorem Stp.drawn (B : Map) (H : Heap) (w : World) (n : Nat) : Stp B H w B H { w with drawn := n } := ⟨.refl _, rfl, rfl, rfl, Nat.le_refl _, fun _ _ _ => rfl, fun _ h => .inl h⟩

theorem HR.cell (h : HR σ base B H w) {i : Nat} {b : Blk} (hi : hget H i = some b) : ∃ p, B i = some p ∧
    ∀ (j : Nat) (x : Value), b.cells[j]? = some x → ∃ x', w.cell? ⟨p.blk, p.off + j, none⟩ = some x' ∧ VR σ B x x' := by
  cases hb : b.rw with
  | false =>
    obtain ⟨g, o, e, _, hc⟩ := h.ro i b hi hb
    exact ⟨_, e, hc⟩
  | true =>
    obtain ⟨g, f, z, cs, ty, fr, e, _, hg, hl, _, hle, hv⟩ := h.rw i b hi hb
    refine ⟨_, e, fun j x hx => ?_⟩
    obtain ⟨x', hx', r⟩ := hv.get hx
    refine ⟨x', ?_, r⟩
    have : cs[f + j]? = some x' := by
      rw [List.getElem?_take] at hx'
      split at hx'
      · simpa using hx'
      · simp at hx'
    simpa [World.cell?, hg] using this

/-- Cells that lie behind one another. -/
theorem HR.cells (h : HR σ base B H w) {i : Nat} {b : Blk} (hi : hget H i = some b) {p : Bnd} (hp : B i = some p) (o n : Nat) (hn : o + n ≤ b.cells.length) :
    ∃ vs, VRs σ B ((b.cells.drop o).take n) vs ∧ vs.length = n ∧ ∀ (j : Nat) (v : Value), vs[j]? = some v → w.cell? ⟨p.blk, p.off + o + j, none⟩ = some v := by
  obtain ⟨p', hp', hc⟩ := h.cell hi
  rw [hp] at hp'; injection hp' with e; subst e
  refine ⟨(List.range n).map fun j => (w.cell? ⟨p.blk, p.off + o + j, none⟩).getD undef, ⟨by simp; omega, fun j x x' hx hx' => ?_⟩, by simp, fun j v hv => ?_⟩
  · rw [List.getElem?_take] at hx
    split at hx
    · rename_i hj
      rw [List.getElem?_drop] at hx
      obtain ⟨y, hy, r⟩ := hc (o + j) x hx
      rw [List.getElem?_map, List.getElem?_range hj] at hx'
      simp only [Option.map_some, Nat.add_assoc, hy, Option.getD_some, Option.some.injEq] at hx'
      exact hx' ▸ r
    · simp at hx
  · have hj : j < n := by have := (List.getElem?_eq_some_iff.1 hv).1; simpa using this
    have hlt : o + j < b.cells.length := by omega
    obtain ⟨y, hy, _⟩ := hc (o + j) _ (List.getElem?_eq_getElem hlt)
    rw [List.getElem?_map, List.getElem?_range hj] at hv
    simp only [Option.map_some, Nat.add_assoc, hy, Option.getD_some, Option.some.injEq] at hv
    rw [Nat.add_assoc, hy, hv]

def bind1 (B : Map) (n : Nat) (p : Bnd) : Map := fun i => if i = n then some p else B i

theorem ext_bind1 (h : HR σ base B H w) (p : Bnd) : Ext B (bind1 B H.length p) := fun i q hq => by
  have := h.dom i q hq
  simp [bind1, Nat.ne_of_lt this, hq]

theorem hget_append_lt {H : Heap} {x : Option Blk} {i : Nat} (h : i < H.length) : hget (H ++ [x]) i = hget H i := by
  simp [hget, List.getElem?_append_left h]
theorem hget_append_self {H : Heap} {b : Blk} : hget (H ++ [some b]) H.length = some b := by simp [hget]
theorem hget_append {H : Heap} {b c : Blk} {i : Nat} (h : hget (H ++ [some b]) i = some c) : (i < H.length ∧ hget H i = some c) ∨ (i = H.length ∧ c = b) := by
  have := hget_lt h
  simp at this
  by_cases hi : i < H.length
  · exact .inl ⟨hi, by rwa [hget_append_lt hi] at h⟩
  · have e : i = H.length := by omega
    subst e
    rw [hget_append_self] at h
    exact .inr ⟨rfl, by injection h with h; exact h.symm⟩

/-- A new block. -/
theorem HR.alloc (h : HR σ base B H w) {w' : World} {cs : List Value} {ty : TypeId} {fr : Nat × Nat} {vs : List Value}
    (hw : w'.heap = w.heap.push (.cells ⟨cs⟩ ty fr)) (ho : w'.os = w.os) (ht : w'.tape = w.tape) (hp : w'.output = w.output)
    (hf : ∀ o, o < cs.length → ¬ (fr.1 ≤ o ∧ o < fr.2)) (hl : vs.length ≤ cs.length) (hv : VRs σ B vs (cs.take vs.length)) :
    HR σ base (bind1 B H.length ⟨w.heap.size, 0, some cs.length⟩) (H ++ [some ⟨true, vs⟩]) w' ∧
    Stp B H w (bind1 B H.length ⟨w.heap.size, 0, some cs.length⟩) (H ++ [some ⟨true, vs⟩]) w' := by
  have hx := ext_bind1 h ⟨w.heap.size, 0, some cs.length⟩
  have hold : ∀ g, g < w.heap.size → w'.heap[g]? = w.heap[g]? := fun g hg => by rw [hw, Array.getElem?_push, if_neg (Nat.ne_of_lt hg)]
  have hnew : w'.heap[w.heap.size]? = some (.cells ⟨cs⟩ ty fr) := by rw [hw]; simp
  have hsz : w'.heap.size = w.heap.size + 1 := by rw [hw]; simp
  have hme : bind1 B H.length ⟨w.heap.size, 0, some cs.length⟩ H.length = some ⟨w.heap.size, 0, some cs.length⟩ := by simp [bind1]
  have hlt : ∀ g x, w.heap[g]? = some x → g < w.heap.size := fun g x hg => (Array.getElem?_eq_some_iff.1 hg).1
  refine ⟨⟨fun i b hi hb => ?_, fun i b hi hb => ?_, fun i j b c p q hi hj hb hc hpi hqj he => ?_, fun i p hi => ?_, by rw [hsz]; have := h.big; omega⟩, ⟨hx, ho, ht, hp, by omega, fun g hg _ => hold g hg, fun g hm => ?_⟩⟩
  · rcases hget_append hi with ⟨hi', hi⟩ | ⟨rfl, rfl⟩
    · obtain ⟨g, f, z, cs', ty', fr', e, hb', hg, hl', hfr, hle, hv'⟩ := h.rw i b hi hb
      exact ⟨g, f, z, cs', ty', fr', hx i _ e, hb', by rw [hold g (hlt g _ hg)]; exact hg, hl', hfr, hle, hv'.mono hx⟩
    · exact ⟨w.heap.size, 0, cs.length, cs, ty, fr, hme, h.big, hnew, by simp, hf, hl, by simpa using hv.mono hx⟩
  · rcases hget_append hi with ⟨hi', hi⟩ | ⟨rfl, rfl⟩
    · obtain ⟨g, o, e, hlt', hc⟩ := h.ro i b hi hb
      refine ⟨g, o, hx i _ e, hlt', fun j x hj => ?_⟩
      obtain ⟨x', hx', r⟩ := hc j x hj
      exact ⟨x', by rw [World.cell?_of_block (w := w) (hold g (Nat.lt_of_lt_of_le hlt' h.big))]; exact hx', r.mono hx⟩
    · simp at hb
  · rcases hget_append hi with ⟨hi', hi⟩ | ⟨rfl, rfl⟩ <;> rcases hget_append hj with ⟨hj', hj⟩ | ⟨rfl, rfl⟩
    · simp only [bind1, Nat.ne_of_lt hi', Nat.ne_of_lt hj', if_false] at hpi hqj
      exact h.inj i j b c p q hi hj hb hc hpi hqj he
    · obtain ⟨g, f, z, cs', ty', fr', e, _, hg, _⟩ := h.rw i b hi hb
      simp only [bind1, Nat.ne_of_lt hi', if_false] at hpi
      rw [e] at hpi; injection hpi with hpi; subst hpi
      rw [hme] at hqj; injection hqj with hqj; subst hqj
      have := hlt g _ hg
      simp at he; omega
    · obtain ⟨g, f, z, cs', ty', fr', e, _, hg, _⟩ := h.rw j c hj hc
      simp only [bind1, Nat.ne_of_lt hj', if_false] at hqj
      rw [e] at hqj; injection hqj with hqj; subst hqj
      rw [hme] at hpi; injection hpi with hpi; subst hpi
      have := hlt g _ hg
      simp at he; omega
    · rfl
  · simp only [bind1] at hi
    simp only [List.length_append, List.length_singleton]
    split at hi
    · omega
    · have := h.dom i p hi; omega
  · obtain ⟨i, b, p, hi, hb, hpi, rfl⟩ := hm
    rcases hget_append hi with ⟨hi', hi⟩ | ⟨rfl, rfl⟩
    · simp only [bind1, Nat.ne_of_lt hi', if_false] at hpi
      exact .inl ⟨i, b, p, hi, hb, hpi, rfl⟩
    · rw [hme] at hpi; injection hpi with hpi; subst hpi
      exact .inr (Nat.le_refl _)

theorem hget_set_ne {H : Heap} {x : Option Blk} {i j : Nat} (h : i ≠ j) : hget (H.set i x) j = hget H j := by
  simp [hget, List.getElem?_set_ne h]
theorem hget_set_self {H : Heap} {x : Option Blk} {i : Nat} (h : i < H.length) : hget (H.set i x) i = x := by
  simp [hget, h]

/-- A block whose cells are written. -/
theorem HR.write (h : HR σ base B H w) {i : Nat} {b : Blk} (hi : hget H i = some b) (hb : b.rw = true) {w' : World} {vs : List Value} (hlen : vs.length = b.cells.length)
    {g f z : Nat} {cs cs' : List Value} {ty : TypeId} {fr : Nat × Nat} (e : B i = some ⟨g, f, some z⟩) (hg : w.heap[g]? = some (.cells ⟨cs⟩ ty fr))
    (hg' : w'.heap[g]? = some (.cells ⟨cs'⟩ ty fr)) (hl : cs'.length = cs.length) (hoth : ∀ k, k ≠ g → w'.heap[k]? = w.heap[k]?) (hsz : w'.heap.size = w.heap.size)
    (ho : w'.os = w.os) (ht : w'.tape = w.tape) (hp : w'.output = w.output) (hv : VRs σ B vs ((cs'.drop f).take b.cells.length)) :
    HR σ base B (H.set i (some { b with cells := vs })) w' ∧ Stp B H w B (H.set i (some { b with cells := vs })) w' := by
  have hil := hget_lt hi
  obtain ⟨g', f', z', cs0, ty0, fr0, e', hbase, hg0, hl0, hfr0, hle0, _⟩ := h.rw i b hi hb
  rw [e] at e'; injection e' with e'; injection e' with e1 e2 e3
  subst e1; subst e2; injection e3 with e3; subst e3
  rw [hg] at hg0; injection hg0 with hg0; injection hg0 with q1 q2 q3
  injection q1 with q1; subst q1; subst q2; subst q3
  have hgetc : ∀ (k : Nat) (c : Blk), hget (H.set i (some { b with cells := vs })) k = some c → (k ≠ i ∧ hget H k = some c) ∨ (k = i ∧ c = { b with cells := vs }) := by
    intro k c hk
    by_cases hki : k = i
    · subst hki; rw [hget_set_self hil] at hk; injection hk with hk; exact .inr ⟨rfl, hk.symm⟩
    · rw [hget_set_ne (Ne.symm hki)] at hk; exact .inl ⟨hki, hk⟩
  have mp : ∀ k, Mp B (H.set i (some { b with cells := vs })) k → Mp B H k := by
    rintro k ⟨j, c, p, hj, hc, hpj, rfl⟩
    rcases hgetc j c hj with ⟨_, hj⟩ | ⟨rfl, rfl⟩
    · exact ⟨j, c, p, hj, hc, hpj, rfl⟩
    · exact ⟨j, b, p, hi, hb, hpj, rfl⟩
  refine ⟨⟨fun j c hj hc => ?_, fun j c hj hc => ?_, fun j k c d p q hj hk hc hd hpj hqk he => ?_, fun j p hj => by simpa using h.dom j p hj, by rw [hsz]; exact h.big⟩,
    ⟨.refl _, ho, ht, hp, Nat.le_of_eq hsz.symm, fun k hk hm => ?_, fun k hm => .inl (mp k hm)⟩⟩
  · rcases hgetc j c hj with ⟨hne, hj⟩ | ⟨rfl, rfl⟩
    · obtain ⟨g1, f1, z1, cs1, ty1, fr1, e1, hb1, hg1, hl1, hfr1, hle1, hv1⟩ := h.rw j c hj hc
      have hne' : g1 ≠ g := fun he => hne (h.inj j i c b _ _ hj hi hc hb e1 e he)
      exact ⟨g1, f1, z1, cs1, ty1, fr1, e1, hb1, by rw [hoth g1 hne']; exact hg1, hl1, hfr1, hle1, hv1⟩
    · exact ⟨g, f, z, cs', ty, fr, e, hbase, hg', by omega, by rw [hl]; exact hfr0, by simpa [hlen] using hle0, by simpa [hlen] using hv⟩
  · rcases hgetc j c hj with ⟨hne, hj⟩ | ⟨rfl, rfl⟩
    · obtain ⟨g1, o1, e1, hlt, hc1⟩ := h.ro j c hj hc
      refine ⟨g1, o1, e1, hlt, fun m x hx => ?_⟩
      obtain ⟨x', hx', r⟩ := hc1 m x hx
      exact ⟨x', by rw [World.cell?_of_block (w := w) (hoth g1 (by omega))]; exact hx', r⟩
    · rw [hb] at hc; simp at hc
  · rcases hgetc j c hj with ⟨_, hj0⟩ | ⟨e1, e2⟩ <;> rcases hgetc k d hk with ⟨_, hk0⟩ | ⟨e3, e4⟩
    · exact h.inj j k c d p q hj0 hk0 hc hd hpj hqk he
    · rw [e3] at hqk ⊢; exact h.inj j i c b p q hj0 hi hc hb hpj hqk he
    · rw [e1] at hpj ⊢; exact h.inj i k b d p q hi hk0 hb hd hpj hqk he
    · rw [e1, e3]
  · exact hoth k (fun he => hm ⟨i, b, _, hi, hb, e, he.symm⟩)

/-- A block is forgotten. -/
theorem HR.kill (h : HR σ base B H w) (i : Nat) : HR σ base B (H.set i none) w ∧ Stp B H w B (H.set i none) w := by
  have hgetc : ∀ (k : Nat) (c : Blk), hget (H.set i none) k = some c → hget H k = some c := by
    intro k c hk
    by_cases hki : k = i
    · subst hki
      have := hget_lt hk
      rw [hget_set_self (by simpa using this)] at hk; simp at hk
    · rwa [hget_set_ne (Ne.symm hki)] at hk
  refine ⟨⟨fun j c hj hc => h.rw j c (hgetc j c hj) hc, fun j c hj hc => h.ro j c (hgetc j c hj) hc, fun j k c d p q hj hk => h.inj j k c d p q (hgetc j c hj) (hgetc k d hk), fun j p hj => by simpa using h.dom j p hj, h.big⟩, ⟨.refl _, rfl, rfl, rfl, Nat.le_refl _, fun _ _ _ => rfl, fun k hm => ?_⟩⟩
  obtain ⟨j, c, p, hj, hc, hpj, rfl⟩ := hm
  exact .inl ⟨j, c, p, hgetc j c hj, hc, hpj, rfl⟩

theorem hget_take {H : Heap} {n i : Nat} {b : Blk} (h : hget (H.take n) i = some b) : i < n ∧ hget H i = some b := by
  have := hget_lt h
  have this : i < n := by simp at this; omega
  refine ⟨this, ?_⟩
  rw [hget, List.getElem?_take, if_pos this] at h
  exact h

/-- What was made from n on is forgotten. -/
theorem HR.cut (h : HR σ base B H w) {n : Nat} (hk : (H.take n).all (blkB n) = true) : HR σ base (AI.cut n B) (H.take n) w := by
  have hb : ∀ (i : Nat) (b : Blk), hget (H.take n) i = some b → b.cells.all (idsB 9 n) = true := by
    intro i b hi
    have hlt := hget_lt hi
    have hmem : some b ∈ H.take n := by
      have : (H.take n)[i]? = some (some b) := by
        unfold hget at hi
        rw [List.getElem?_eq_getElem hlt] at hi ⊢
        simpa using hi
      exact List.mem_of_getElem? this
    exact List.all_eq_true.1 hk _ hmem
  have hvr : ∀ {l l' : List Value}, l.all (idsB 9 n) = true → VRs σ B l l' → VRs σ (AI.cut n B) l l' := fun ha hr => ⟨hr.1, fun j x x' hx hx' => (hr.2 j x x' hx hx').cut n 9 (List.all_eq_true.1 ha x (List.mem_of_getElem? hx))⟩
  have hc : ∀ i p, i < n → B i = some p → AI.cut n B i = some p := fun i p hi hp => by simp [AI.cut, hi, hp]
  have hc' : ∀ i p, AI.cut n B i = some p → i < n ∧ B i = some p := fun i p hi => by
    unfold AI.cut at hi
    split at hi
    · exact ⟨‹_›, hi⟩
    · simp at hi
  refine ⟨fun i b hi hr => ?_, fun i b hi hr => ?_, fun i j b c p q hi hj hr hs hp hq => ?_, fun i p hi => ?_, h.big⟩
  · obtain ⟨hlt, hi'⟩ := hget_take hi
    obtain ⟨g, f, z, cs, ty, fr, e, r⟩ := h.rw i b hi' hr
    exact ⟨g, f, z, cs, ty, fr, hc i _ hlt e, r.1, r.2.1, r.2.2.1, r.2.2.2.1, r.2.2.2.2.1, hvr (hb i b hi) r.2.2.2.2.2⟩
  · obtain ⟨hlt, hi'⟩ := hget_take hi
    obtain ⟨g, o, e, hg, r⟩ := h.ro i b hi' hr
    refine ⟨g, o, hc i _ hlt e, hg, fun j x hx => ?_⟩
    obtain ⟨x', hx', r'⟩ := r j x hx
    exact ⟨x', hx', r'.cut n 9 (List.all_eq_true.1 (hb i b hi) x (List.mem_of_getElem? hx))⟩
  · obtain ⟨_, hi'⟩ := hget_take hi
    obtain ⟨_, hj'⟩ := hget_take hj
    exact h.inj i j b c p q hi' hj' hr hs (hc' i p hp).2 (hc' j q hq).2
  · have h1 := (hc' i p hi).1
    have h2 := h.dom i p (hc' i p hi).2
    simp; omega
end

/-- Cells are stored. -/
theorem run_storeCells_all {P : Program} (g o : Nat) (ty : TypeId) (fr : Nat × Nat) : ∀ (vs : List Value) (i : Nat) (cs : List Value) (w : World), w.heap[g]? = some (.cells ⟨cs⟩ ty fr) →
    (∀ o, o < cs.length → ¬ (fr.1 ≤ o ∧ o < fr.2)) → o + i + vs.length ≤ cs.length → (∀ v ∈ vs, v.oneCell' = true) →
    ∃ w', (storeCells ⟨g, o, none⟩ vs i).run P w = .ok () w' ∧ w'.heap[g]? = some (.cells ⟨splice cs (o + i) vs⟩ ty fr) ∧ (∀ k, k ≠ g → w'.heap[k]? = w.heap[k]?) ∧
      w'.heap.size = w.heap.size ∧ w'.os = w.os ∧ w'.tape = w.tape ∧ w'.output = w.output := by
  intro vs
  induction vs with
  | nil => intro i cs w hg _ _ _; exact ⟨w, rfl, hg, fun _ _ => rfl, rfl, rfl, rfl, rfl⟩
  | cons v r ih =>
    intro i cs w hg hf hl h1
    simp only [List.length_cons] at hl
    have hadd : (⟨g, o, none⟩ : Addr).add i = ⟨g, o + i, none⟩ := by unfold Addr.add; split <;> simp_all
    have hc : w.cell? ⟨g, o + i, none⟩ = some cs[o + i] := by
      simp [World.cell?, hg, List.getElem?_eq_getElem (show o + i < cs.length by omega)]
    have hfz : w.frozen? ⟨g, o + i, none⟩ = false := by
      simp only [World.frozen?, hg]
      have := hf (o + i) (by omega)
      cases h : (decide (fr.1 ≤ o + i) && decide (o + i < fr.2)) with
      | false => rfl
      | true => simp at h; exact absurd h this
    have hset : (w.setCell ⟨g, o + i, none⟩ v).heap[g]? = some (.cells ⟨cs.set (o + i) v⟩ ty fr) := by
      simp [World.setCell, Array.getElem?_modify, hg]
    obtain ⟨w', hr, h2, h3, h4, h5, h6, h7⟩ := ih (i + 1) (cs.set (o + i) v) (w.setCell ⟨g, o + i, none⟩ v) hset (by simpa using hf) (by simp; omega) (fun x hx => h1 x (by simp [hx]))
    refine ⟨w', ?_, by simpa [splice, Nat.add_assoc] using h2, fun k hk => ?_, by rw [h4]; simp [World.setCell], h5, h6, h7⟩
    · simp only [storeCells, hadd, Sem.run_bind, run_store P w _ v .plain (h1 v (by simp)), hc, hfz, Bool.false_eq_true, if_false, Result.andThen_ok]
      exact hr
    · rw [h3 k hk]
      simp [World.setCell, Array.getElem?_modify, Ne.symm hk]

end Go.Proofs.Ytlbhbjaimcinbaa.AI
