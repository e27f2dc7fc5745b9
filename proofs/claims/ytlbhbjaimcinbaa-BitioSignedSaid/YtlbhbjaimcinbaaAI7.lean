/- Operations, fourth part: those that make memory; conversions. -/
import Derived.Test.YtlbhbjaimcinbaaAI6
namespace Go.Proofs.Ytlbhbjaimcinbaa.AI
open Go

section
variable {P : Program} {τ σ : Nat → Nat} {base : Nat} {B : Map} {H : Heap} {w : World} {e : Env} {a : Act} {o : Oper} {v : Value} {H' : Heap}

/-- A block of just these cells. -/
theorem new_ok (hr : HR σ base B H w) {vs vs' : List Value} {ty : TypeId} (hv : VRs σ B vs vs')
    {w' : World} (hw : w' = { w with heap := w.heap.push (.cells ⟨vs'⟩ ty) }) :
    HR σ base (bind1 B H.length ⟨w.heap.size, 0, some vs'.length⟩) (H ++ [some ⟨true, vs⟩]) w' ∧
    Stp B H w (bind1 B H.length ⟨w.heap.size, 0, some vs'.length⟩) (H ++ [some ⟨true, vs⟩]) w' := by
  subst hw
  exact hr.alloc rfl rfl rfl rfl (fun o _ => by omega) (by have := hv.1; omega) (by rw [hv.1, List.take_length]; exact hv)

theorem bind1_self (B : Map) (n : Nat) (p : Bnd) : bind1 B n p n = some p := by simp [bind1]

theorem alloc_ok {t : TypeId} {z : Value} (hr : HR σ base B H w) (hop : o.op = .alloc t) (hz : zeroT P t = some z) (hk : constV 9 z = true)
    (h : aop (.new z.cells.toList) e H = some (v, H')) : OpOK P σ base B H w a o v H' := by
  simp only [aop, Option.some.injEq, Prod.mk.injEq] at h
  obtain ⟨rfl, rfl⟩ := h
  have rz : VRs σ B z.cells.toList z.cells.toList := (VR.const 9 z hk).cells
  obtain ⟨h1, h2⟩ := new_ok (ty := t) hr rz rfl
  refine ⟨.pointer (some ⟨w.heap.size, 0, none⟩), _, _, .inl ?_, .ptr H.length 0 ⟨w.heap.size, 0, _⟩ (bind1_self _ _ _), h1, h2⟩
  simp only [execOp, hop, Instr.alloc, newVar, newRow, Sem.run_bind, zeroT_run hz, Result.andThen_ok, run_newObj, Sem.run_pure]

theorem box_ok {t : TypeId} {x : Operand} {x' : Arg} (hr : HR σ base B H w) (ht : TR σ B e a) (hop : o.op = .box t x) (hx : cArg τ σ x = some x')
    (h : aop (.box x') e H = some (v, H')) : OpOK P σ base B H w a o v H' := by
  simp only [aop, Option.map_eq_some_iff] at h
  obtain ⟨vx, hvx, he⟩ := h
  injection he with e1 e2; subst e1; subst e2
  have rz := (ev_sound ht hx hvx).cells
  obtain ⟨h1, h2⟩ := new_ok (ty := t) hr rz rfl
  refine ⟨.pointer (some ⟨w.heap.size, 0, none⟩), _, _, .inl ?_, .ptr H.length 0 ⟨w.heap.size, 0, _⟩ (bind1_self _ _ _), h1, h2⟩
  simp only [execOp, hop, Instr.box, newVar, newRow, Sem.run_bind, Result.andThen_ok, run_newObj, Sem.run_pure]

theorem foldl_splice (off : Nat) : ∀ (l : List Value) (k : Nat) (cs : Array Value), ((l.zipIdx k).foldl (fun cs (x : Value × Nat) => cs.setIfInBounds (off + x.2) x.1) cs).toList = splice cs.toList (off + k) l := by
  intro l
  induction l with
  | nil => intro k cs; rfl
  | cons v l ih =>
    intro k cs
    simp only [List.zipIdx_cons, List.foldl_cons, splice]
    rw [ih (k + 1)]
    simp [Nat.add_assoc]

theorem fill_run {place : Nat → Option (Nat × Nat)} (ht : TR σ B e a) : ∀ {parts : List (Nat × Operand)} {ps : List (Nat × Nat × Arg)} {vs : List (Nat × Nat × Value)} {zero zero' cs : List Value},
    cParts τ σ place parts = some ps → evp e ps = some vs → VRs σ B zero zero' → fillL zero vs = some cs →
    ∃ cs', Instr.fill place ⟨zero'⟩ (parts.map fun (i, x) => (i, a.eval x)) = some ⟨cs'⟩ ∧ VRs σ B cs cs' := by
  intro parts
  induction parts with
  | nil =>
    intro ps vs zero zero' cs hc he hz hf
    simp only [cParts, Option.some.injEq] at hc; subst hc
    simp only [evp, Option.some.injEq] at he; subst he
    simp only [fillL, Option.some.injEq] at hf; subst hf
    exact ⟨zero', rfl, hz⟩
  | cons p parts ih =>
    intro ps vs zero zero' cs hc he hz hf
    obtain ⟨i, x⟩ := p
    simp only [cParts, Option.bind_eq_some_iff] at hc
    obtain ⟨⟨off, size⟩, hpl, y, hy, ps', hps, hc⟩ := hc
    injection hc with hc; subst hc
    simp only [evp, Option.bind_eq_some_iff] at he
    obtain ⟨v, hv, vs', hvs, he⟩ := he
    injection he with he; subst he
    simp only [fillL] at hf
    split at hf
    · rename_i hsz
      have rv := (ev_sound ht hy hv).cells
      have hs : (a.eval x).cells.size = size := by have := rv.1; simp at this; omega
      obtain ⟨cs', h1, h2⟩ := ih hps hvs (rv.splice off hz) hf
      refine ⟨cs', ?_, h2⟩
      have hl := hz.1
      have hno : ((a.eval x).cells.size ≠ size || decide (off + (a.eval x).cells.size > zero'.length)) = false := by
        simp [hs]; omega
      have hfold : ((a.eval x).cells.zipIdx.foldl (fun (cs : Array Value) (x : Value × Nat) => cs.setIfInBounds (off + x.2) x.1) (⟨zero'⟩ : Array Value)) = ⟨splice zero' off (a.eval x).cells.toList⟩ := by
        apply Array.ext'
        rw [← Array.foldl_toList, Array.toList_zipIdx, foldl_splice]
        rfl
      simp only [List.map_cons, Instr.fill, hpl]
      rw [show ((a.eval x).cells.zipIdx.foldl (fun (cs : Array Value) (x : Value × Nat) => match x with | (c, j) => cs.setIfInBounds (off + j) c) (⟨zero'⟩ : Array Value)) = (⟨splice zero' off (a.eval x).cells.toList⟩ : Array Value) from hfold]
      rw [if_neg (by simpa using hno)]
      exact h1
    · simp at hf

theorem mapM_run {α β : Type} {f : α → Sem β} {g : α → Option β} (hf : ∀ x y, g x = some y → ∀ w, (f x).run P w = .ok y w) : ∀ (l : List α) (r : List β), l.mapM g = some r → ∀ w, (l.mapM f).run P w = .ok r w := by
  intro l
  induction l with
  | nil => intro r h w; simp at h; subst h; rfl
  | cons x l ih =>
    intro r h w
    simp only [List.mapM_cons, Option.bind_eq_bind, Option.bind_eq_some_iff] at h
    obtain ⟨y, hy, r', hr, h⟩ := h
    simp at h; subst h
    simp only [List.mapM_cons, Sem.run_bind, hf x y hy, Result.andThen_ok, ih r' hr, Sem.run_pure]

theorem build_okS {t : TypeId} {fs : Array Field} {z : Value} {parts : Array (Nat × Operand)} {pl : List (Nat × Nat)} {ps : List (Nat × Nat × Arg)} (hr : HR σ base B H w) (ht : TR σ B e a) (hop : o.op = .build t parts)
    (hz : zeroT P t = some z) (hk : constV 9 z = true) (hu : P.underlying t = some (.struct fs)) (hpl : (fs.toList.mapM fun f => (szT P f.type).map fun n => (f.offset, n)) = some pl)
    (hc : cParts τ σ (pl[·]?) parts.toList = some ps) (h : aop (.build z.cells.toList ps) e H = some (v, H')) : OpOK P σ base B H w a o v H' := by
  simp only [aop, Option.bind_eq_some_iff, Option.map_eq_some_iff] at h
  obtain ⟨vs, hvs, cs, hcs, he⟩ := h
  injection he with e1 e2; subst e1; subst e2
  obtain ⟨cs', h1, h2⟩ := fill_run ht hc hvs (VR.const 9 z hk).cells hcs
  refine OpOK.pure hr ?_ (.agg' (cs' := ⟨cs'⟩) h2)
  have hm : (fs.mapM (fun (f : Field) => do pure (f.offset, ← sizeOf f.type) : Field → Sem (Nat × Nat))).run P w = .ok ⟨pl⟩ w := by
    have h0 := mapM_run (P := P) (f := fun (f : Field) => (do pure (f.offset, ← sizeOf f.type) : Sem (Nat × Nat))) (g := fun f => (szT P f.type).map fun n => (f.offset, n)) (fun x y hy w => by
      simp only [Option.map_eq_some_iff] at hy
      obtain ⟨n, hn, rfl⟩ := hy
      simp only [Sem.run_bind, szT_run hn, Result.andThen_ok, Sem.run_pure]) fs.toList pl hpl w
    have h1 := Array.toList_mapM (m := Sem) (f := fun (f : Field) => (do pure (f.offset, ← sizeOf f.type) : Sem (Nat × Nat))) (xs := fs)
    rw [← h1] at h0
    simp only [Sem.run_map] at h0
    cases hq : (fs.mapM (fun (f : Field) => do pure (f.offset, ← sizeOf f.type) : Field → Sem (Nat × Nat))).run P w with
    | ok r w1 =>
      rw [hq] at h0
      simp only [Result.andThen_ok, Result.ok.injEq] at h0
      obtain ⟨h0, rfl⟩ := h0
      rw [← h0]
    | halt x w1 => rw [hq] at h0; simp at h0
  have hpl' : (fun (i : Nat) => (⟨pl⟩ : Array (Nat × Nat))[i]?) = (fun (i : Nat) => pl[i]?) := by funext i; simp
  have hz' : (⟨z.cells.toList⟩ : Array Value) = z.cells := rfl
  rw [hz'] at h1
  simp only [execOp, hop, Instr.build, Sem.run_bind, zeroT_run hz, run_underlying hu, hm, Result.andThen_ok, Sem.run_pure, hpl', Array.toList_map, h1]

theorem build_okA {t el : TypeId} {n sz : Nat} {z : Value} {parts : Array (Nat × Operand)} {ps : List (Nat × Nat × Arg)} (hr : HR σ base B H w) (ht : TR σ B e a) (hop : o.op = .build t parts)
    (hz : zeroT P t = some z) (hk : constV 9 z = true) (hu : P.underlying t = some (.array n el)) (hs : szT P el = some sz)
    (hc : cParts τ σ (fun i => some (i * sz, sz)) parts.toList = some ps) (h : aop (.build z.cells.toList ps) e H = some (v, H')) : OpOK P σ base B H w a o v H' := by
  simp only [aop, Option.bind_eq_some_iff, Option.map_eq_some_iff] at h
  obtain ⟨vs, hvs, cs, hcs, he⟩ := h
  injection he with e1 e2; subst e1; subst e2
  obtain ⟨cs', h1, h2⟩ := fill_run ht hc hvs (VR.const 9 z hk).cells hcs
  refine OpOK.pure hr ?_ (.agg' (cs' := ⟨cs'⟩) h2)
  have hz' : (⟨z.cells.toList⟩ : Array Value) = z.cells := rfl
  rw [hz'] at h1
  simp only [execOp, hop, Instr.build, Sem.run_bind, zeroT_run hz, run_underlying hu, szT_run hs, Result.andThen_ok, Sem.run_pure, Array.toList_map, h1]

theorem range_mod (z : Array Value) : ∀ l : Nat, (List.range (l * z.size)).map (fun i => z[i % z.size]!) = (List.replicate l z.toList).flatten := by
  intro l
  induction l with
  | zero => simp
  | succ l ih =>
    rw [Nat.succ_mul, List.range_add, List.map_append, ih, List.replicate_succ', List.flatten_append]
    congr 1
    simp only [List.map_map, List.flatten_cons, List.flatten_nil, List.append_nil]
    apply List.ext_getElem?
    intro j
    by_cases hj : j < z.size
    · rw [List.getElem?_map, List.getElem?_range hj]
      simp only [Option.map_some, Function.comp, Nat.mul_add_mod_self_right, Nat.mod_eq_of_lt hj]
      simp [hj]
    · rw [List.getElem?_eq_none (by simp; omega), List.getElem?_eq_none (by simp; omega)]

theorem buildS_ok {t el : TypeId} {len sz : Nat} {z : Value} {parts : Array (Nat × Operand)} {ps : List (Nat × Nat × Arg)} (hr : HR σ base B H w) (ht : TR σ B e a) (hop : o.op = .buildSlice t len parts)
    (hz : zeroT P el = some z) (hk : constV 9 z = true) (hu : P.underlying t = some (.slice el)) (hs : szT P el = some sz) (hlen : len * sz ≤ 10000) (hzs : z.cells.size = sz) (h0 : 0 < sz)
    (hc : cParts τ σ (fun i => some (i * sz, sz)) parts.toList = some ps) (h : aop (.buildS sz len (List.replicate len z.cells.toList).flatten ps) e H = some (v, H')) : OpOK P σ base B H w a o v H' := by
  simp only [aop, Option.bind_eq_some_iff, Option.map_eq_some_iff] at h
  obtain ⟨vs, hvs, cs, hcs, he⟩ := h
  injection he with e1 e2; subst e1; subst e2
  obtain ⟨cs', h1, h2⟩ := fill_run ht hc hvs ((VR.const (σ := σ) (B := B) 9 z hk).cells.of_flatten_replicate len) hcs
  obtain ⟨g1, g2⟩ := new_ok (ty := el) hr h2 rfl
  have hl0 : ∀ (vs : List (Nat × Nat × Value)) (l cs : List Value), fillL l vs = some cs → cs.length = l.length := by
    intro vs
    induction vs with
    | nil => intro l cs h; simp only [fillL, Option.some.injEq] at h; rw [h]
    | cons p vs ih =>
      obtain ⟨o1, s1, v1⟩ := p
      intro l cs h
      simp only [fillL] at h
      split at h
      · rw [ih _ _ h, splice_length]
      · simp at h
  have hcl : cs'.length = len * sz := by
    rw [← h2.1, hl0 _ _ _ hcs]
    simp [List.length_flatten, hzs]
  refine ⟨.slice (some ⟨w.heap.size, 0 + 0, none⟩) len len, _, _, .inl ?_, .slice H.length 0 len sz len ⟨w.heap.size, 0, _⟩ (bind1_self _ _ _) (Nat.le_refl _) (fun s hs => by simp at hs; omega), g1, g2⟩
  have hza : ((Array.range (len * sz)).map (fun i => (if len * sz = 0 then (#[] : Array Value) else z.cells)[i % (if len * sz = 0 then (#[] : Array Value) else z.cells).size]!)) = ⟨(List.replicate len z.cells.toList).flatten⟩ := by
    apply Array.ext'
    by_cases hl : len = 0
    · subst hl; simp
    · have : ¬ len * sz = 0 := Nat.mul_ne_zero hl (by omega)
      rw [if_neg this, Array.toList_map, Array.toList_range]
      rw [← range_mod z.cells, hzs]
  have hbig : ¬ (len * sz > 2 ^ 24) := by omega
  simp only [execOp, hop, Instr.buildSlice, Sem.run_bind, run_underlying hu, szT_run hs, Result.andThen_ok, if_neg hbig, Sem.run_ite, Sem.run_pure, zeroT_run hz]
  have h1' : Instr.fill (fun i => some (i * sz, sz)) ⟨(List.replicate len z.cells.toList).flatten⟩ (parts.map (fun x => (x.fst, a.eval x.snd))).toList = some ⟨cs'⟩ := by
    rw [Array.toList_map]; exact h1
  by_cases hl : len * sz = 0
  · rw [if_pos hl] at hza ⊢
    rw [hza, h1']
    simp only [newRow, Sem.run_bind, run_newObj, Sem.run_pure, Nat.add_zero, Result.andThen_ok]
  · rw [if_neg hl] at hza ⊢
    rw [hza, h1']
    simp only [newRow, Sem.run_bind, run_newObj, Sem.run_pure, Nat.add_zero, Result.andThen_ok]

end
end Go.Proofs.Ytlbhbjaimcinbaa.AI
