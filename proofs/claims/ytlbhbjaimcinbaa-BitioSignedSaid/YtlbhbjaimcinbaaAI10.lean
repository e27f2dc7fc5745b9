/- Operations, seventh part: make, append, copy, structs compared. -/
import Derived.Test.YtlbhbjaimcinbaaAI9
import Derived.Laws.StructEq
namespace Go.Proofs.Ytlbhbjaimcinbaa.AI
open Go

section
variable {P : Program} {τ σ : Nat → Nat} {base : Nat} {B : Map} {H : Heap} {w : World} {e : Env} {a : Act} {o : Oper} {v : Value} {H' : Heap}

theorem take_range_mod (z : Array Value) (l c : Nat) (h : l ≤ c) : (((Array.range (c * z.size)).map fun i => z[i % z.size]!).toList).take (l * z.size) = (List.replicate l z.toList).flatten := by
  rw [Array.toList_map, Array.toList_range, ← List.map_take, List.take_range, ← range_mod z l]
  congr 2
  exact Nat.min_eq_left (Nat.mul_le_mul_right _ h)

theorem mkS_ok {t el : TypeId} {i : TypeInfo} {z : Value} {x y : Operand} {x' y' : Arg} (hr : HR σ base B H w) (ht : TR σ B e a) (hop : o.op = .makeSlice t x y)
    (hu : P.underlying t = some (.slice el)) (hi : P.info? el = some i) (hz : zeroT P el = some z) (hk : constV 9 z = true) (hzs : z.cells.size = i.size) (h0 : 0 < i.size)
    (hx : cArg τ σ x = some x') (hy : cArg τ σ y = some y') (h : aop (.mkS i.bytes z.cells.toList x' y') e H = some (v, H')) : OpOK P σ base B H w a o v H' := by
  simp only [aop, Option.bind_eq_some_iff] at h
  obtain ⟨vl, hvl, l, hl, vc, hvc, c, hc, h⟩ := h
  split at h
  · rename_i hb
    obtain ⟨b1, b2, b3, b4⟩ := hb
    injection h with h; injection h with e1 e2; subst e1; subst e2
    obtain ⟨k1, rfl⟩ := intOf_eq hl
    obtain ⟨k2, rfl⟩ := intOf_eq hc
    have el' := (ev_sound ht hx hvl).of_int
    have ec := (ev_sound ht hy hvc).of_int
    have wl : IntKind.i64.wrap l = l := by rw [IntKind.wrap_i64]; omega
    have wc : IntKind.i64.wrap c = c := by rw [IntKind.wrap_i64]; omega
    have hbytes : (i.bytes : Int) * c ≤ 1000 * 1000000000 := Int.mul_le_mul (by omega) b3 (by omega) (by omega)
    obtain ⟨L, rfl⟩ := Int.eq_ofNat_of_zero_le b1
    obtain ⟨C, rfl⟩ := Int.eq_ofNat_of_zero_le (show 0 ≤ c by omega)
    have hLC : L ≤ C := by omega
    simp only [Int.toNat_natCast] at *
    have hns : ((Array.range (C * i.size)).map (fun j => (if C * i.size = 0 then (#[] : Array Value) else z.cells)[j % (if C * i.size = 0 then (#[] : Array Value) else z.cells).size]!)).toList.take (L * i.size) = (List.replicate L z.cells.toList).flatten := by
      by_cases hC : C = 0
      · have hL : L = 0 := by omega
        subst hC; subst hL; simp
      · rw [if_neg (Nat.mul_ne_zero hC (by omega)), ← hzs, take_range_mod z.cells L C hLC]
    have hlenr : (List.replicate L z.cells.toList).flatten.length = L * i.size := by simp [List.length_flatten, hzs]
    generalize hrow : ((Array.range (C * i.size)).map (fun j => (if C * i.size = 0 then (#[] : Array Value) else z.cells)[j % (if C * i.size = 0 then (#[] : Array Value) else z.cells).size]!)) = row at hns
    have hrs : row.toList.length = C * i.size := by rw [← hrow]; simp
    have hvs : VRs σ B (List.replicate L z.cells.toList).flatten (row.toList.take (List.replicate L z.cells.toList).flatten.length) := by
      rw [hlenr, hns]
      exact (VR.const (σ := σ) (B := B) 9 z hk).cells.of_flatten_replicate L
    obtain ⟨g1, g2⟩ := hr.alloc (w' := { w with heap := w.heap.push (.cells row el) }) (cs := row.toList) rfl rfl rfl rfl (fun o _ => by omega)
      (by rw [hlenr, hrs]; exact Nat.mul_le_mul_right _ hLC) hvs
    refine ⟨.slice (some ⟨w.heap.size, 0 + 0, none⟩) L C, _, _, .inl ?_, .slice H.length 0 L _ C ⟨w.heap.size, 0, some row.toList.length⟩ (bind1_self _ _ _) hLC (fun s hs => by simp at hs; simp at hrs; rw [← hs, hrs]; simp [hzs]), g1, g2⟩
    have t1 : ¬ ((i.bytes : Int) * (C : Int) > 2 ^ 48) := by omega
    have t2 : ¬ ((C : Int) < 0) := by omega
    have t3 : ¬ ((L : Int) < 0) := by omega
    have t4 : ¬ ((L : Int) > (C : Int)) := by omega
    have hti : ∀ w, (typeInfo el).run P w = .ok i w := fun w => by simp [typeInfo, hi]
    have hsz : ∀ w, (sizeOf el).run P w = .ok i.size w := fun w => szT_run (by simp [szT, hi]) w
    simp only [execOp, hop, el', ec, Instr.makeSlice, asInt, asIntOf, Sem.run_bind, run_underlying hu, Result.andThen_ok, Sem.run_pure, hti, wl, wc, t1, t2, t3, t4, decide_false, Bool.or_false, Bool.false_eq_true, if_false,
      run_askRoom, hsz, Int.toNat_natCast, Sem.run_ite, zeroT_run hz, newRow, run_newObj]
    by_cases hC : C * i.size = 0
    · rw [if_pos hC] at hrow ⊢
      simp only [Result.andThen_ok]
      rw [hrow]
    · rw [if_neg hC] at hrow ⊢
      simp only [Result.andThen_ok]
      rw [hrow]
  · simp at h

/-- A block goes on under another number: it was written behind its end, and begins later. -/
theorem HR.regrow (h : HR σ base B H w) {i : Nat} {b : Blk} (hi : hget H i = some b) (hb : b.rw = true) {w' : World} {vs : List Value} {off : Nat}
    {g f z : Nat} {cs cs' : List Value} {ty : TypeId} {fr : Nat × Nat} (e : B i = some ⟨g, f, some z⟩) (hg : w.heap[g]? = some (.cells ⟨cs⟩ ty fr))
    (hg' : w'.heap[g]? = some (.cells ⟨cs'⟩ ty fr)) (hl : cs'.length = cs.length) (hoth : ∀ k, k ≠ g → w'.heap[k]? = w.heap[k]?) (hsz : w'.heap.size = w.heap.size)
    (ho : w'.os = w.os) (ht : w'.tape = w.tape) (hp : w'.output = w.output) (hoff : off ≤ z) (hle : vs.length ≤ z - off) (hv : VRs σ B vs ((cs'.drop (f + off)).take vs.length)) :
    HR σ base (bind1 B H.length ⟨g, f + off, some (z - off)⟩) (H.set i none ++ [some ⟨true, vs⟩]) w' ∧
    Stp B H w (bind1 B H.length ⟨g, f + off, some (z - off)⟩) (H.set i none ++ [some ⟨true, vs⟩]) w' := by
  have hil := hget_lt hi
  have hx := ext_bind1 h ⟨g, f + off, some (z - off)⟩
  obtain ⟨g', f', z', cs0, ty0, fr0, e', hbase, hg0, hl0, hfr0, hle0, _⟩ := h.rw i b hi hb
  rw [e] at e'; injection e' with e'; injection e' with e1 e2 e3
  subst e1; subst e2; injection e3 with e3; subst e3
  rw [hg] at hg0; injection hg0 with hg0; injection hg0 with q1 q2 q3
  injection q1 with q1; subst q1; subst q2; subst q3
  have hgetc : ∀ (k : Nat) (c : Blk), hget (H.set i none ++ [some ⟨true, vs⟩]) k = some c → (k < H.length ∧ k ≠ i ∧ hget H k = some c) ∨ (k = H.length ∧ c = ⟨true, vs⟩) := by
    intro k c hk
    rcases hget_append hk with ⟨hlt, hk⟩ | ⟨e1, e2⟩
    · have hlt' : k < H.length := by simpa using hlt
      by_cases hki : k = i
      · subst hki; rw [hget_set_self hil] at hk; simp at hk
      · rw [hget_set_ne (Ne.symm hki)] at hk; exact .inl ⟨hlt', hki, hk⟩
    · exact .inr ⟨by simpa using e1, e2⟩
  have hme : bind1 B H.length ⟨g, f + off, some (z - off)⟩ H.length = some ⟨g, f + off, some (z - off)⟩ := bind1_self _ _ _
  have hold : ∀ k, k < H.length → bind1 B H.length ⟨g, f + off, some (z - off)⟩ k = B k := fun k hk => by simp [bind1, Nat.ne_of_lt hk]
  refine ⟨⟨fun j c hj hc => ?_, fun j c hj hc => ?_, fun j k c d p q hj hk hc hd hpj hqk he => ?_, fun j p hj => ?_, by rw [hsz]; exact h.big⟩,
    ⟨hx, ho, ht, hp, Nat.le_of_eq hsz.symm, fun k hk hm => ?_, fun k hm => ?_⟩⟩
  · rcases hgetc j c hj with ⟨hlt, hne, hj⟩ | ⟨rfl, rfl⟩
    · obtain ⟨g1, f1, z1, cs1, ty1, fr1, e1, hb1, hg1, hl1, hfr1, hle1, hv1⟩ := h.rw j c hj hc
      have hne' : g1 ≠ g := fun he => hne (h.inj j i c b _ _ hj hi hc hb e1 e he)
      exact ⟨g1, f1, z1, cs1, ty1, fr1, hx _ _ e1, hb1, by rw [hoth g1 hne']; exact hg1, hl1, hfr1, hle1, hv1.mono hx⟩
    · exact ⟨g, f + off, z - off, cs', ty, fr, hme, hbase, hg', by omega, by rw [hl]; exact hfr0, hle, hv.mono hx⟩
  · rcases hgetc j c hj with ⟨hlt, hne, hj⟩ | ⟨rfl, rfl⟩
    · obtain ⟨g1, o1, e1, hlt, hc1⟩ := h.ro j c hj hc
      refine ⟨g1, o1, hx _ _ e1, hlt, fun m x hxm => ?_⟩
      obtain ⟨x', hx', r⟩ := hc1 m x hxm
      exact ⟨x', by rw [World.cell?_of_block (w := w) (hoth g1 (by omega))]; exact hx', r.mono hx⟩
    · simp at hc
  · rcases hgetc j c hj with ⟨hlt, hne, hj0⟩ | ⟨e1, e2⟩ <;> rcases hgetc k d hk with ⟨hlt2, hne2, hk0⟩ | ⟨e3, e4⟩
    · rw [hold j hlt] at hpj; rw [hold k hlt2] at hqk
      exact h.inj j k c d p q hj0 hk0 hc hd hpj hqk he
    · rw [hold j hlt] at hpj; rw [e3, hme] at hqk
      injection hqk with hqk; subst hqk
      exact absurd (h.inj j i c b p _ hj0 hi hc hb hpj e he) hne
    · rw [hold k hlt2] at hqk; rw [e1, hme] at hpj
      injection hpj with hpj; subst hpj
      exact absurd (h.inj k i d b q _ hk0 hi hd hb hqk e he.symm) hne2
    · rw [e1, e3]
  · simp only [bind1] at hj
    simp only [List.length_append, List.length_set, List.length_singleton]
    split at hj
    · omega
    · have := h.dom j p hj; omega
  · exact hoth k (fun he => hm ⟨i, b, _, hi, hb, e, he.symm⟩)
  · obtain ⟨j, c, p, hj, hc, hpj, rfl⟩ := hm
    rcases hgetc j c hj with ⟨hlt, hne, hj0⟩ | ⟨e1, e2⟩
    · rw [hold j hlt] at hpj
      exact .inl ⟨j, c, p, hj0, hc, hpj, rfl⟩
    · rw [e1, hme] at hpj; injection hpj with hpj; subst hpj
      exact .inl ⟨i, b, _, hi, hb, e, rfl⟩

theorem zeroCells_len (z : Array Value) (n : Nat) : (Builtin.zeroCells z n).toList.length = n * z.size := by simp [Builtin.zeroCells]

/-- append, where there is no room. -/
theorem append_grow_run {t1 t2 ty el : TypeId} {i : TypeInfo} {zv s x : Value} {bs : Option Addr} {n c m : Nat} {olds news : List Value} (ht : P.underlying t1 = some (.slice el))
    (ht2 : P.underlying t2 = some .string ∨ ∃ u, P.underlying t2 = some (.slice u)) (hi : P.info? el = some i) (hz : i.zero = some zv) (hb : i.bytes ≠ 0)
    (hs : s = .slice bs n c) (hx : (Builtin.lenOf x).run P w = .ok m w) (hg : c < n + m) (hlim : (n + m) * i.bytes ≤ 1000000000)
    (ho : ∀ w' : World, w'.heap = w.heap → (Builtin.firstCells i.size n s).run P w' = .ok ⟨olds⟩ w') (hn : ∀ w' : World, w'.heap = w.heap → (Builtin.firstCells i.size m x).run P w' = .ok ⟨news⟩ w') :
    (Builtin.append_ #[t1, t2] ty #[s, x]).run P w = .ok (.slice (some ⟨w.heap.size, 0, none⟩) (n + m) (grownCap w (n + m) c el))
      (w.drew.alloc (.cells (⟨olds⟩ ++ ⟨news⟩ ++ Builtin.zeroCells zv.cells (grownCap w (n + m) c el - (n + m))) el)) := by
  subst hs
  have hti : ∀ w, (typeInfo el).run P w = .ok i w := fun w => by simp [typeInfo, hi]
  have hsz : ∀ w, (sizeOf el).run P w = .ok i.size w := fun w => szT_run (by simp [szT, hi]) w
  have hzv : ∀ w, (zeroValue el).run P w = .ok zv w := fun w => by simp [zeroValue, typeInfo, hi, hz]
  have hfit := growslice_fits hg (show (n + m) * i.bytes ≤ 140737488355328 by omega)
  have h48 : ¬ (Builtin.nextslicecap (n + m) c * i.bytes > 2 ^ 48) := by omega
  have hroom : ¬ (n + m ≤ c) := by omega
  have ho' := ho w.drew rfl
  have hn' := hn w.drew rfl
  rcases ht2 with ht2 | ⟨u, ht2⟩ <;>
  · simp only [Builtin.append_, List.getElem?_toArray, List.getElem?_cons_zero, List.getElem?_cons_succ, Sem.run_bind, run_underlying ht, run_underlying ht2, Result.andThen_ok, hsz, Sem.run_pure,
      Bool.false_eq_true, if_false, hx, hroom, hti, hb, or_self, and_false, h48, run_choose, Question.forced, run_askRoom]
    show Result.andThen (Sem.run P _ w.drew) _ = _
    rw [ho', Result.andThen_ok]
    simp only [Bool.not_false, if_true]
    rw [hn', Result.andThen_ok]
    simp only [hzv, Result.andThen_ok, newRow, Sem.run_bind, run_newObj, Sem.run_pure, grownCap]
    rfl

theorem append_room_run {t1 t2 ty el : TypeId} {i : TypeInfo} {s x : Value} {bs : Option Addr} {n c m : Nat} {news : List Value} {w' : World} (ht : P.underlying t1 = some (.slice el))
    (ht2 : P.underlying t2 = some .string ∨ ∃ u, P.underlying t2 = some (.slice u)) (hi : P.info? el = some i)
    (hs : s = .slice bs n c) (hx : (Builtin.lenOf x).run P w = .ok m w) (hg : n + m ≤ c)
    (hn : (Builtin.firstCells i.size m x).run P w = .ok ⟨news⟩ w) (hst : ∀ ad, bs = some ad → (storeCells (ad.add (n * i.size)) news).run P w = .ok () w') (hnone : bs = none → w' = w) :
    (Builtin.append_ #[t1, t2] ty #[s, x]).run P w = .ok (.slice bs (n + m) c) w' := by
  subst hs
  have hsz : ∀ w, (sizeOf el).run P w = .ok i.size w := fun w => szT_run (by simp [szT, hi]) w
  rcases ht2 with ht2 | ⟨u, ht2⟩ <;>
  · simp only [Builtin.append_, List.getElem?_toArray, List.getElem?_cons_zero, List.getElem?_cons_succ, Sem.run_bind, run_underlying ht, run_underlying ht2, Result.andThen_ok, hsz, Sem.run_pure,
      Bool.false_eq_true, if_false, hx, hg, if_true, Bool.not_false, hn]
    cases bs with
    | none => rw [hnone rfl]; simp only [Sem.run_pure]
    | some ad => simp only [Sem.run_bind, hst ad rfl, Result.andThen_ok, Sem.run_pure]

end
end Go.Proofs.Ytlbhbjaimcinbaa.AI
