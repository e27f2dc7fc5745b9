/- Operations, eighth part: append, copy, structs compared. -/
import Derived.Test.YtlbhbjaimcinbaaAI10
namespace Go.Proofs.Ytlbhbjaimcinbaa.AI
open Go

section
variable {P : Program} {τ σ : Nat → Nat} {base : Nat} {B : Map} {H : Heap} {w : World} {e : Env} {a : Act} {o : Oper} {v : Value} {H' : Heap}

theorem Stp.of_drawn {B' : Map} {H1 H2 : Heap} {w' : World} (h : Stp B H1 w.drew B' H2 w') : Stp B H1 w B' H2 w' := ⟨h.ext, h.os, h.tape, h.output, h.size, h.keep, h.own⟩

/-- A block behind an append that has grown. -/
theorem grow_ok (hr : HR σ base B H w) {el : TypeId} {all all' rest : List Value} (hv : VRs σ B all all') :
    HR σ base (bind1 B H.length ⟨w.heap.size, 0, some (all' ++ rest).length⟩) (H ++ [some ⟨true, all⟩]) (w.drew.alloc (.cells ⟨all' ++ rest⟩ el)) ∧
    Stp B H w (bind1 B H.length ⟨w.heap.size, 0, some (all' ++ rest).length⟩) (H ++ [some ⟨true, all⟩]) (w.drew.alloc (.cells ⟨all' ++ rest⟩ el)) := by
  refine hr.alloc (cs := all' ++ rest) (ty := el) (fr := (0, 0)) rfl rfl rfl rfl (fun o _ => by omega) (by have := hv.1; simp; omega) ?_
  rw [hv.1, List.take_left]
  exact hv

theorem arr3 (xs ys : List Value) (zs : Array Value) : ((⟨xs⟩ : Array Value) ++ (⟨ys⟩ : Array Value) ++ zs) = ⟨xs ++ ys ++ zs.toList⟩ := by
  apply Array.ext'; simp

theorem splice_all : ∀ (vs l : List Value), l.length = vs.length → splice l 0 vs = vs := by
  intro vs l h
  have key : ∀ (vs l pre : List Value), l.length = vs.length → splice (pre ++ l) pre.length vs = pre ++ vs := by
    intro vs
    induction vs with
    | nil => intro l pre h; have : l = [] := List.eq_nil_of_length_eq_zero (by simpa using h); subst this; rfl
    | cons v vs ih =>
      intro l pre h
      cases l with
      | nil => simp at h
      | cons x l =>
        simp only [splice]
        rw [List.set_append_right _ _ (Nat.le_refl _), Nat.sub_self, List.set_cons_zero]
        have := ih l (pre ++ [v]) (by simpa using h)
        simp only [List.append_assoc, List.singleton_append, List.length_append, List.length_singleton] at this
        exact this
  simpa using key vs l [] h

theorem app_ok {args : Array Operand} {t1 t2 el : TypeId} {i : TypeInfo} {zv : Value} {d' s' : Arg} (hr : HR σ base B H w) (ht : TR σ B e a)
    (hop : o.op = .call { callee := .builtin .append, args, argTypes := #[t1, t2] }) (hu : P.underlying t1 = some (.slice el)) (hu2 : P.underlying t2 = some .string ∨ ∃ u, P.underlying t2 = some (.slice u))
    (hi : P.info? el = some i) (hb : i.bytes ≠ 0) (hz : zeroT P el = some zv) (hzs : zv.cells.size = i.size)
    (hc : cArgs τ σ args.toList = some [d', s']) (h : aop (.app i.size i.bytes d' s') e H = some (v, H')) : OpOK P σ base B H w a o v H' := by
  obtain ⟨x, y, rfl, hx, hy⟩ := args2 hc
  obtain ⟨cs0, hexec⟩ := exec_builtin (a := a) hop
  simp only [aop, Option.bind_eq_some_iff] at h
  obtain ⟨vd, hvd, vs, hvs, m, hm, new, hnew, h⟩ := h
  have hzi : i.zero = some zv := by simpa [zeroT, hi] using hz
  have rd := ev_sound ht hx hvd
  have rs := ev_sound ht hy hvs
  obtain ⟨new', hfirst, rnew, hlen, hnl, _⟩ := firstCells_run (P := P) hr rs hm hnew
  have fin : ∀ {r : Value} {w1 : World}, (Builtin.append_ #[t1, t2] o.type #[a.eval x, a.eval y]).run P w = .ok r w1 → (execOp a.eval o).run P w = .ok (.value r) w1 := by
    intro r w1 hr1
    rw [hexec]
    simp only [List.map_toArray, List.map_cons, List.map_nil, builtin, Sem.run_bind, hr1, Result.andThen_ok, Sem.run_pure]
  split at h
  · have ed := rd.atom_eq rfl
    split at h
    · rename_i hm0
      injection h with h; injection h with e1 e2; subst e1; subst e2
      subst hm0
      refine OpOK.pure hr (fin ?_) (.atom _ rfl)
      exact append_room_run (w := w) (w' := w) (bs := none) (n := 0) (c := 0) hu hu2 hi ed (hlen w) (by omega) (hfirst w rfl) (fun ad he => by simp at he) (fun _ => rfl)
    · rename_i hm0
      split at h
      · rename_i hlim
        injection h with h; injection h with e1 e2; subst e1; subst e2
        have hrun := append_grow_run (P := P) (w := w) (ty := o.type) (olds := []) hu hu2 hi hzi hb ed (hlen w) (show 0 < 0 + m by omega) (by simpa using hlim) (fun w' _ => by rw [ed]; rfl) hfirst
        have hge := grownCap_ge w (0 + m) 0 el
        obtain ⟨g1, g2⟩ := grow_ok (el := el) (rest := (Builtin.zeroCells zv.cells (grownCap w (0 + m) 0 el - (0 + m))).toList) hr rnew
        have hl2 : (new' ++ (Builtin.zeroCells zv.cells (grownCap w (0 + m) 0 el - (0 + m))).toList).length = grownCap w (0 + m) 0 el * i.size := by
          rw [List.length_append, ← rnew.1, hnl, zeroCells_len, hzs, ← Nat.add_mul]; congr 1; omega
        rw [arr3, List.nil_append] at hrun
        refine ⟨_, _, _, .inl (fin hrun), ?_, g1, g2⟩
        · have := VR.slice (σ := σ) H.length 0 (0 + m) i.size (grownCap w (0 + m) 0 el) ⟨w.heap.size, 0, _⟩ (bind1_self B H.length ⟨w.heap.size, 0, some (new' ++ (Builtin.zeroCells zv.cells (grownCap w (0 + m) 0 el - (0 + m))).toList).length⟩) hge (fun s hs => by injection hs with hs; rw [← hs, hl2]; omega)
          simpa using this
      · simp at h
  · rename_i ad n z
    simp only [Option.bind_eq_some_iff] at h
    obtain ⟨b, hbk, h⟩ := h
    split at h
    · rename_i hcond
      simp only [Bool.and_eq_true, decide_eq_true_eq] at hcond
      obtain ⟨⟨hrw, hz1, hend, hlim⟩, hone⟩ := hcond
      subst hz1
      injection h with h; injection h with e1 e2; subst e1; subst e2
      obtain ⟨g, f, zz, cs, ty, fr, e1, hbase, hg, hl, hfr, hle, hvr⟩ := hr.rw _ b hbk hrw
      obtain ⟨p, c, hp, hspot, hcase⟩ := rd.of_slice
      rw [e1] at hp; injection hp with hp; subst hp
      rcases hcase with ⟨ed, hnc, hsz⟩ | ⟨_, hs0, _⟩
      · have hsz := hsz zz rfl
        by_cases hroom : n + m ≤ c
        · -- there is room
          have hfit : f + (ad.off + n * i.size) + 0 + new'.length ≤ cs.length := by
            have : (n + m) * i.size ≤ c * i.size := Nat.mul_le_mul_right _ hroom
            rw [Nat.add_mul] at this
            rw [← rnew.1, hnl]; omega
          obtain ⟨w', hrun, hg', hoth, hsz', ho, hti, hpo⟩ := run_storeCells_all (P := P) g (f + (ad.off + n * i.size)) ty fr new' 0 cs w hg hfr hfit (fun x hx => by
            obtain ⟨j, hj⟩ := List.mem_iff_getElem?.1 hx
            have hjl : j < new.length := by have := (List.getElem?_eq_some_iff.1 hj).1; have := rnew.1; omega
            exact (rnew.2 j _ x (List.getElem?_eq_getElem hjl) hj).one (List.all_eq_true.1 hone _ (List.getElem_mem hjl)))
          rw [Nat.add_zero] at hg'
          have hrun2 := append_room_run (P := P) (ty := o.type) (w := w) (w' := w') (bs := some ⟨g, f + ad.off, none⟩) hu hu2 hi ed (hlen w) hroom (hfirst w rfl) (fun ad2 he => by
            injection he with he; subst he
            rw [Addr_add, Nat.add_assoc]; exact hrun) (fun he => by simp at he)
          have hoff : ad.off ≤ b.cells.length := by omega
          have hreg := hr.regrow hbk hrw (vs := b.cells.drop ad.off ++ new) (off := ad.off) e1 hg hg' (splice_length _ _ _) hoth hsz' ho hti hpo (by omega)
            (by
              have : (n + m) * i.size ≤ c * i.size := Nat.mul_le_mul_right _ hroom
              rw [Nat.add_mul] at this
              simp [hnl]; omega)
            (by
              have : (n + m) * i.size ≤ c * i.size := Nat.mul_le_mul_right _ hroom
              rw [Nat.add_mul] at this
              have hnl' : new'.length = m * i.size := by rw [← rnew.1, hnl]
              have hlen2 : (b.cells.drop ad.off ++ new).length = n * i.size + new'.length := by simp [hnl, hnl']; omega
              rw [hlen2, ← Nat.add_assoc, splice_mid (by omega) (by omega)]
              have hX : ((cs.drop (f + ad.off)).take (n * i.size + new'.length)) = (cs.drop (f + ad.off)).take (n * i.size) ++ ((cs.drop (f + ad.off)).drop (n * i.size)).take new'.length := by rw [List.take_add]
              have hXl : ((cs.drop (f + ad.off)).take (n * i.size)).length = n * i.size := by simp; omega
              rw [hX]
              have hsp := splice_append_right new' ((cs.drop (f + ad.off)).take (n * i.size)) (((cs.drop (f + ad.off)).drop (n * i.size)).take new'.length) 0
              rw [hXl, Nat.add_zero] at hsp
              rw [hsp, splice_all _ _ (by simp; omega)]
              refine VRs.append ?_ rnew
              have h1 := hvr.drop ad.off
              rw [List.drop_take, List.drop_drop, show b.cells.length - ad.off = n * i.size by omega] at h1
              exact h1)
          obtain ⟨g1, g2⟩ := hreg
          refine ⟨_, _, _, .inl (fin hrun2), ?_, g1, g2⟩
          have := VR.slice (σ := σ) H.length 0 (n + m) i.size c ⟨g, f + ad.off, _⟩ (bind1_self B H.length ⟨g, f + ad.off, some (zz - ad.off)⟩) hroom (fun s hs => by injection hs with hs; omega)
          simpa using this
        · -- a new block
          obtain ⟨olds, hvo, hlo, hco⟩ := hr.cells hbk e1 ad.off (n * i.size) (by omega)
          have holds : ∀ w' : World, w'.heap = w.heap → (Builtin.firstCells i.size n (a.eval x)).run P w' = .ok ⟨olds⟩ w' := by
            intro w' hw'
            have hcell : ∀ q : Addr, w'.cell? q = w.cell? q := fun q => by simp [World.cell?, hw']
            rw [ed]
            exact run_firstCells_some w' i.size n _ n c olds hlo (fun j v hv => by rw [Addr_add, hcell]; exact hco j v hv)
          have hrun := append_grow_run (P := P) (w := w) (ty := o.type) hu hu2 hi hzi hb ed (hlen w) (by omega) hlim holds hfirst
          have hge := grownCap_ge w (n + m) c el
          obtain ⟨k1, k2⟩ := hr.kill ad.block
          have hdr : (b.cells.drop ad.off).take (n * i.size) = b.cells.drop ad.off := List.take_of_length_le (by simp; omega)
          rw [hdr] at hvo
          obtain ⟨g1, g2⟩ := grow_ok (el := el) (rest := (Builtin.zeroCells zv.cells (grownCap w (n + m) c el - (n + m))).toList) k1 (hvo.append rnew)
          have hl2 : (olds ++ new' ++ (Builtin.zeroCells zv.cells (grownCap w (n + m) c el - (n + m))).toList).length = grownCap w (n + m) c el * i.size := by
            rw [List.length_append, List.length_append, hlo, ← rnew.1, hnl, zeroCells_len, hzs, ← Nat.add_mul, ← Nat.add_mul]; congr 1; omega
          rw [List.length_set] at g1 g2
          rw [arr3] at hrun
          refine ⟨_, _, _, .inl (fin hrun), ?_, g1, k2.trans g2⟩
          have := VR.slice (σ := σ) H.length 0 (n + m) i.size (grownCap w (n + m) c el) ⟨w.heap.size, 0, _⟩ (bind1_self B H.length ⟨w.heap.size, 0, some (olds ++ new' ++ (Builtin.zeroCells zv.cells (grownCap w (n + m) c el - (n + m))).toList).length⟩) hge (fun s hs => by injection hs with hs; rw [← hs, hl2]; omega)
          simpa using this
      · simp at hs0
    · simp at h
  · simp at h

end
end Go.Proofs.Ytlbhbjaimcinbaa.AI
