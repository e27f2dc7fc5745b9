/- Operations, second part. -/
import Derived.Test.YtlbhbjaimcinbaaAI4
namespace Go.Proofs.Ytlbhbjaimcinbaa.AI
open Go

section
variable {P : Program} {τ σ : Nat → Nat} {base : Nat} {B : Map} {H : Heap} {w : World} {e : Env} {a : Act}

theorem addrOf_eq {v : Value} {ad : Addr} (h : addrOf v = some ad) : v = .pointer (some ⟨ad.block, ad.off, none⟩) ∧ ad = ⟨ad.block, ad.off, none⟩ := by
  unfold addrOf at h
  split at h
  · injection h with h; subst h; exact ⟨rfl, rfl⟩
  · simp at h

theorem VR.of_ptr {i o : Nat} {v' : Value} (r : VR σ B (.pointer (some ⟨i, o, none⟩)) v') : ∃ p, B i = some p ∧ v' = .pointer (some ⟨p.blk, p.off + o, none⟩) := by
  cases r with
  | atom _ h => simp [AI.atom] at h
  | ptr _ _ p hp => exact ⟨p, hp, rfl⟩

theorem VR.of_slice {ad : Addr} {n z : Nat} {v' : Value} (r : VR σ B (.slice (some ad) n z) v') : ∃ p c, B ad.block = some p ∧ ad.spot = none ∧
    ((v' = .slice (some ⟨p.blk, p.off + ad.off, none⟩) n c ∧ n ≤ c ∧ (∀ s, p.size = some s → ad.off + c * z ≤ s)) ∨ (n = 0 ∧ p.size = none ∧ ∃ a', v' = .slice a' 0 c)) := by
  cases r with
  | atom _ h => simp [AI.atom] at h
  | slice i o n z c p hp hn hs => exact ⟨p, c, hp, rfl, .inl ⟨rfl, hn, hs⟩⟩
  | empty i o z c p a' hp hs => exact ⟨p, c, hp, rfl, .inr ⟨rfl, hs, a', rfl⟩⟩

theorem VR.of_agg {cs : Array Value} {v' : Value} (r : VR σ B (.agg cs) v') : ∃ cs', v' = .agg cs' ∧ VRs σ B cs.toList cs'.toList := by
  cases r with
  | atom _ h => simp [AI.atom] at h
  | agg _ cs' hl hr => exact ⟨cs', rfl, hl, hr⟩

theorem VR.of_tuple {cs : Array Value} {v' : Value} (r : VR σ B (.tuple cs) v') : ∃ cs', v' = .tuple cs' ∧ VRs σ B cs.toList cs'.toList := by
  cases r with
  | atom _ h => simp [AI.atom] at h
  | tuple _ cs' hl hr => exact ⟨cs', rfl, hl, hr⟩

theorem intOf_eq {v : Value} {n : Int} (h : intOf? v = some n) : ∃ k, v = .int k n := by
  unfold intOf? at h
  split at h
  · injection h with h; subst h; exact ⟨_, rfl⟩
  · simp at h

theorem szT_run {t : TypeId} {n : Nat} (h : szT P t = some n) (w : World) : (sizeOf t).run P w = .ok n w := by
  simp only [szT, Option.map_eq_some_iff] at h
  obtain ⟨i, hi, rfl⟩ := h
  simp [sizeOf, typeInfo, hi]

theorem isAgg_run {t : TypeId} {b : Bool} (h : isAggT P t = some b) (w : World) : (isAgg t).run P w = .ok b w := by
  unfold isAggT at h
  cases hu : P.underlying t with
  | none => simp [hu] at h
  | some d =>
    rw [hu] at h
    simp only [isAgg, Sem.run_bind, run_underlying hu, Result.andThen_ok]
    cases d <;> simp at h <;> subst h <;> rfl

theorem zeroT_run {t : TypeId} {v : Value} (h : zeroT P t = some v) (w : World) : (zeroValue t).run P w = .ok v w := by
  simp only [zeroT, Option.bind_eq_some_iff] at h
  obtain ⟨i, hi, hz⟩ := h
  simp [zeroValue, typeInfo, hi, hz]

theorem Addr_add (b o n : Nat) : (⟨b, o, none⟩ : Addr).add n = ⟨b, o + n, none⟩ := by unfold Addr.add; split <;> simp_all

/-- A value is read. -/
theorem loadAt_run (hr : HR σ base B H w) {t : TypeId} {n : Option Nat} {i o : Nat} {p : Bnd} {v : Value} (hp : B i = some p) (hn : shT P t = some n) (h : hload H n ⟨i, o, none⟩ = some v) :
    ∃ v', (loadVar t ⟨p.blk, p.off + o, none⟩).run P w = .ok v' w ∧ VR σ B v v' := by
  simp only [hload, Option.bind_eq_some_iff] at h
  obtain ⟨b, hb, h⟩ := h
  unfold shT at hn
  split at hn
  · rename_i hag
    simp only [Option.map_eq_some_iff] at hn
    obtain ⟨m, hm, rfl⟩ := hn
    simp only at h
    split at h
    · rename_i hle
      injection h with h; subst h
      obtain ⟨vs, hvs, hlen, hc⟩ := hr.cells hb hp o m hle
      refine ⟨.agg vs.toArray, ?_, .agg' hvs⟩
      have hl := run_loadCells_list (P := P) w ⟨p.blk, p.off + o, none⟩ vs (fun j v hv => by rw [Addr_add]; exact hc j v hv)
      rw [hlen] at hl
      simp only [loadVar, Sem.run_bind, isAgg_run hag, Result.andThen_ok, if_true, szT_run hm, hl, Sem.run_pure]
    · simp at h
  · rename_i hag
    injection hn with hn; subst hn
    simp only at h
    obtain ⟨p', hp', hc⟩ := hr.cell hb
    rw [hp] at hp'; injection hp' with hp'; subst hp'
    obtain ⟨x', hx', r⟩ := hc o v h
    refine ⟨x', ?_, r⟩
    simp only [loadVar, Sem.run_bind, isAgg_run hag, Result.andThen_ok, Bool.false_eq_true, if_false, run_load, hx']
  · simp at hn

theorem load_ok {o : Oper} {t : TypeId} {x : Operand} {x' : Arg} {n : Option Nat} {v : Value} {H' : Heap} (hr : HR σ base B H w) (ht : TR σ B e a) (hop : o.op = .load t x)
    (hx : cArg τ σ x = some x') (hn : shT P t = some n) (h : aop (.load n x') e H = some (v, H')) : OpOK P σ base B H w a o v H' := by
  simp only [aop, Option.bind_eq_some_iff, Option.map_eq_some_iff] at h
  obtain ⟨va, hva, ad, had, r, hl, he⟩ := h
  injection he with e1 e2; subst e1; subst e2
  obtain ⟨rfl, hd⟩ := addrOf_eq had
  obtain ⟨p, hp, ex⟩ := (ev_sound ht hx hva).of_ptr
  rw [hd] at hl
  obtain ⟨v', hv', rv⟩ := loadAt_run (P := P) hr hp hn hl
  refine OpOK.pure hr ?_ rv
  simp only [execOp, hop, ex, Instr.loadAt, Instr.sureAddr, Sem.run_bind, Sem.run_pure, Result.andThen_ok, hv']

theorem splice_append_right (vs : List Value) : ∀ (l m : List Value) (o : Nat), splice (l ++ m) (l.length + o) vs = l ++ splice m o vs := by
  induction vs with
  | nil => intro l m o; rfl
  | cons v r ih =>
    intro l m o
    simp only [splice]
    rw [List.set_append_right _ _ (by omega), show l.length + o - l.length = o by omega, Nat.add_assoc, ih]

theorem splice_mid {cs vs : List Value} {f o len : Nat} (h1 : f + len ≤ cs.length) (h2 : o + vs.length ≤ len) :
    ((splice cs (f + o) vs).drop f).take len = splice ((cs.drop f).take len) o vs := by
  have e : cs = cs.take f ++ ((cs.drop f).take len ++ (cs.drop f).drop len) := by rw [List.take_append_drop, List.take_append_drop]
  have hf : (cs.take f).length = f := by simp; omega
  have hm : ((cs.drop f).take len).length = len := by simp; omega
  generalize cs.take f = x at e hf
  generalize (cs.drop f).take len = y at e hm ⊢
  generalize (cs.drop f).drop len = z at e
  subst e; subst hf; subst hm
  rw [splice_append_right, splice_append_left _ _ _ _ h2]
  simp [splice_length]

/-- Cells are written. -/
theorem store_run (hr : HR σ base B H w) {i o : Nat} {p : Bnd} {vs vs' : List Value} {H' : Heap} (hp : B i = some p) (hv : VRs σ B vs vs') (h : hstore H ⟨i, o, none⟩ vs = some H') :
    ∃ w', (storeCells ⟨p.blk, p.off + o, none⟩ vs' 0).run P w = .ok () w' ∧ HR σ base B H' w' ∧ Stp B H w B H' w' := by
  simp only [hstore, Option.bind_eq_some_iff] at h
  obtain ⟨b, hb, h⟩ := h
  split at h
  · rename_i hc
    injection h with h; subst h
    simp only [Bool.and_eq_true, decide_eq_true_eq] at hc
    obtain ⟨⟨hrw, hle⟩, hone⟩ := hc
    obtain ⟨g, f, z, cs, ty, fr, e1, hbase, hg, hl, hfr, hlz, hvr⟩ := hr.rw i b hb hrw
    rw [hp] at e1; injection e1 with e1; subst e1
    have hlen := hv.1
    obtain ⟨w', hrun, hg', hoth, hsz, ho, ht, hpo⟩ := run_storeCells_all (P := P) g (f + o) ty fr vs' 0 cs w hg hfr (by omega) (fun x hx => by
      obtain ⟨j, hj⟩ := List.mem_iff_getElem?.1 hx
      have hjl : j < vs.length := by have := (List.getElem?_eq_some_iff.1 hj).1; omega
      exact (hv.2 j _ x (List.getElem?_eq_getElem hjl) hj).one (List.all_eq_true.1 hone _ (List.getElem_mem hjl)))
    rw [Nat.add_zero] at hg'
    refine ⟨w', hrun, hr.write hb hrw (splice_length _ _ _) hp hg hg' (splice_length _ _ _) hoth hsz ho ht hpo ?_⟩
    rw [splice_mid (by omega) (by omega)]
    exact hv.splice o hvr
  · simp at h

theorem store_ok {o : Oper} {t : TypeId} {x y : Operand} {x' y' : Arg} {n : Nat} {v : Value} {H' : Heap} (hr : HR σ base B H w) (ht : TR σ B e a) (hop : o.op = .store t x y)
    (hx : cArg τ σ x = some x') (hy : cArg τ σ y = some y') (hn : szT P t = some n) (h : aop (.store n x' y') e H = some (v, H')) : OpOK P σ base B H w a o v H' := by
  simp only [aop, Option.bind_eq_some_iff] at h
  obtain ⟨va, hva, ad, had, vx, hvx, h⟩ := h
  split at h
  · rename_i hsz
    simp only [Option.map_eq_some_iff] at h
    obtain ⟨H1, hs, he⟩ := h
    injection he with e1 e2; subst e1; subst e2
    obtain ⟨rfl, hd⟩ := addrOf_eq had
    obtain ⟨p, hp, ex⟩ := (ev_sound ht hx hva).of_ptr
    have rx := (ev_sound ht hy hvx).cells
    rw [hd] at hs
    obtain ⟨w', hrun, hr', hst⟩ := store_run (P := P) hr hp rx hs
    refine ⟨undef, w', B, .inr ⟨?_, rfl⟩, .tuple' VRs.nil, hr', hst⟩
    have hs2 : (a.eval y).cells.size = n := by have := rx.1; simp at this; omega
    simp only [execOp, hop, ex, Instr.storeAt, Instr.sureAddr, storeVar, Sem.run_bind, Sem.run_pure, Result.andThen_ok, szT_run hn, hs2, ne_eq, not_true, if_false, hrun]
  · simp at h
end
end Go.Proofs.Ytlbhbjaimcinbaa.AI
