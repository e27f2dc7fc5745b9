/- Operations, third part. -/
import Derived.Test.YtlbhbjaimcinbaaAI5
namespace Go.Proofs.Ytlbhbjaimcinbaa.AI
open Go

section
variable {P : Program} {τ σ : Nat → Nat} {base : Nat} {B : Map} {H : Heap} {w : World} {e : Env} {a : Act} {o : Oper} {v : Value} {H' : Heap}

theorem mov_ok {x : Operand} {x' : Arg} (hr : HR σ base B H w) (ht : TR σ B e a) (hop : o.op = .move x ∨ o.op = .assign x)
    (hx : cArg τ σ x = some x') (h : aop (.mov x') e H = some (v, H')) : OpOK P σ base B H w a o v H' := by
  simp only [aop, Option.map_eq_some_iff] at h
  obtain ⟨va, hva, he⟩ := h
  injection he with e1 e2; subst e1; subst e2
  refine OpOK.pure hr ?_ (ev_sound ht hx hva)
  rcases hop with hop | hop <;> simp only [execOp, hop, Sem.run_pure]

theorem pick_ok {c x y : Operand} {c' x' y' : Arg} (hr : HR σ base B H w) (ht : TR σ B e a) (hop : o.op = .pick c x y)
    (hc : cArg τ σ c = some c') (hx : cArg τ σ x = some x') (hy : cArg τ σ y = some y') (h : aop (.pick c' x' y') e H = some (v, H')) : OpOK P σ base B H w a o v H' := by
  simp only [aop] at h
  split at h
  · rename_i b hb
    have eb := (ev_sound ht hc hb).of_bool
    simp only [Option.map_eq_some_iff] at h
    obtain ⟨va, hva, he⟩ := h
    injection he with e1 e2; subst e1; subst e2
    cases b with
    | true =>
      refine OpOK.pure hr ?_ (ev_sound ht hx (by simpa using hva))
      simp only [execOp, hop, eb, asBool, Sem.run_bind, Sem.run_pure, Result.andThen_ok, if_true]
    | false =>
      refine OpOK.pure hr ?_ (ev_sound ht hy (by simpa using hva))
      simp only [execOp, hop, eb, asBool, Sem.run_bind, Sem.run_pure, Result.andThen_ok, Bool.false_eq_true, if_false]
  · simp at h

theorem unary_atom {op : UnOp} {x r : Value} (h : eval0 (Op.unary op x) = some r) : AI.atom x = true ∧ AI.atom r = true := by
  cases op <;> cases x <;> simp only [Op.unary, Op.intArith, Op.intBits, Pure.pure, stuck, eval0, reduceCtorEq, Option.some.injEq] at h <;> first
    | (subst h; exact ⟨rfl, rfl⟩)
    | (rename_i q; cases q <;> simp [unsupported] at h)

theorem un_ok {op : UnOp} {t : TypeId} {x : Operand} {x' : Arg} (hr : HR σ base B H w) (ht : TR σ B e a) (hop : o.op = .unOp op t x)
    (hx : cArg τ σ x = some x') (h : aop (.un op x') e H = some (v, H')) : OpOK P σ base B H w a o v H' := by
  simp only [aop, Option.bind_eq_some_iff, Option.map_eq_some_iff] at h
  obtain ⟨va, hva, r, hr0, he⟩ := h
  injection he with e1 e2; subst e1; subst e2
  obtain ⟨h1, h2⟩ := unary_atom hr0
  have ex := (ev_sound ht hx hva).atom_eq h1
  refine OpOK.pure hr ?_ (.atom _ h2)
  simp only [execOp, hop, ex, Sem.run_bind, eval0_run hr0, Result.andThen_ok, Sem.run_pure]

theorem eqp_run {t u : TypeId} {op : BinOp} {neg : Bool} {px py : Operand} {x y : Value} {r : Bool} (ht : P.underlying t = some (.pointer u)) (h : eqPtr x y = some r)
    (hop : (op = .eql ∧ neg = false) ∨ (op = .neq ∧ neg = true)) (w : World) :
    (do eqGuard op t px py x y; binOp op t x y : Sem Value).run P w = .ok (.bool (r != neg)) w := by
  have he : (Op.equal t x y).run P w = .ok r w := by
    show (Op.equalIn (9999 + 1) t x y).run P w = _
    rw [Op.equalIn]
    simp only [Sem.run_bind, run_underlying ht, Result.andThen_ok]
    unfold eqPtr at h
    split at h
    · injection h with h; subst h; rfl
    · injection h with h; subst h; rfl
    · simp at h
  unfold eqPtr at h
  split at h
  · rename_i b
    rcases hop with ⟨rfl, rfl⟩ | ⟨rfl, rfl⟩
    · simp only [Sem.run_bind, show (eqGuard .eql t px py (.pointer none) (.pointer b)).run P w = .ok () w from rfl, Result.andThen_ok]
      cases b <;> simp only [binOp, Sem.run_bind, he, Result.andThen_ok, Sem.run_pure] <;> simp
    · simp only [Sem.run_bind, show (eqGuard .neq t px py (.pointer none) (.pointer b)).run P w = .ok () w from rfl, Result.andThen_ok]
      cases b <;> simp only [binOp, Sem.run_bind, he, Result.andThen_ok, Sem.run_pure] <;> simp
  · rename_i p
    rcases hop with ⟨rfl, rfl⟩ | ⟨rfl, rfl⟩
    · simp only [Sem.run_bind, show (eqGuard .eql t px py (.pointer (some p)) (.pointer none)).run P w = .ok () w from rfl, Result.andThen_ok, binOp, he, Sem.run_pure]
      simp
    · simp only [Sem.run_bind, show (eqGuard .neq t px py (.pointer (some p)) (.pointer none)).run P w = .ok () w from rfl, Result.andThen_ok, binOp, he, Sem.run_pure]
      simp
  · simp at h

theorem eqPtr_sound {x y x' y' : Value} {r : Bool} (hx : VR σ B x x') (hy : VR σ B y y') (h : eqPtr x y = some r) : eqPtr x' y' = some r := by
  unfold eqPtr at h
  split at h
  · rename_i b
    have := hx.atom_eq rfl; subst this
    injection h with h; subst h
    cases b with
    | none => have := hy.atom_eq rfl; subst this; rfl
    | some ad =>
      cases hy with
      | atom _ hh => simp [AI.atom] at hh
      | ptr i o p hp => rfl
  · rename_i ad
    have := hy.atom_eq rfl; subst this
    injection h with h; subst h
    cases hx with
    | atom _ hh => simp [AI.atom] at hh
    | ptr i o p hp => rfl
  · simp at h

theorem eqp_ok {op : BinOp} {neg : Bool} {t u s : TypeId} {x y : Operand} {x' y' : Arg} (hr : HR σ base B H w) (ht : TR σ B e a) (hop : o.op = .binOp op t x y s) (hu : P.underlying t = some (.pointer u))
    (hx : cArg τ σ x = some x') (hy : cArg τ σ y = some y') (ho : (op = .eql ∧ neg = false) ∨ (op = .neq ∧ neg = true)) (h : aop (.eqp neg x' y') e H = some (v, H')) : OpOK P σ base B H w a o v H' := by
  simp only [aop, Option.bind_eq_some_iff, Option.map_eq_some_iff] at h
  obtain ⟨va, hva, vb, hvb, r, hr0, he⟩ := h
  injection he with e1 e2; subst e1; subst e2
  refine OpOK.pure hr ?_ (.atom _ rfl)
  have := eqp_run (P := P) (px := x) (py := y) hu (eqPtr_sound (ev_sound ht hx hva) (ev_sound ht hy hvb) hr0) ho w
  simp only [execOp, hop, Sem.run_bind] at this ⊢
  simp only [this, Result.andThen_ok, Sem.run_pure]

theorem nilck_ok {x : Operand} {x' : Arg} (hr : HR σ base B H w) (ht : TR σ B e a) (hop : o.op = .nilCheck x)
    (hx : cArg τ σ x = some x') (h : aop (.nilck x') e H = some (v, H')) : OpOK P σ base B H w a o v H' := by
  simp only [aop] at h
  split at h
  · rename_i ad hv
    injection h with h; injection h with e1 e2; subst e1; subst e2
    have r := ev_sound ht hx hv
    generalize hva : a.eval x = y at r
    cases r with
    | atom _ hh => simp [AI.atom] at hh
    | ptr i o p hp => exact OpOK.pure hr (by simp only [execOp, hop, hva, Sem.run_pure]) (.ptr i o p hp)
  · rename_i i f c hv
    injection h with h; injection h with e1 e2; subst e1; subst e2
    have r := ev_sound ht hx hv
    generalize hva : a.eval x = y at r
    cases r with
    | atom _ hh => simp [AI.atom] at hh
    | func i f c f' c' h1 r1 h2 r2 => exact OpOK.pure hr (by simp only [execOp, hop, hva, Sem.run_pure]) (.func i f c f' c' h1 r1 h2 r2)
  · simp at h

theorem faddr_ok {s : TypeId} {fs : Array Field} {fd : Field} {n f : Nat} {x : Operand} {x' : Arg} (hr : HR σ base B H w) (ht : TR σ B e a) (hop : o.op = .fieldAddr s x f)
    (hu : P.underlying s = some (.struct fs)) (hf : fs[f]? = some fd) (hn : szT P fd.type = some n) (h0 : n ≠ 0)
    (hx : cArg τ σ x = some x') (h : aop (.faddr fd.offset x') e H = some (v, H')) : OpOK P σ base B H w a o v H' := by
  simp only [aop, Option.bind_eq_some_iff, Option.map_eq_some_iff] at h
  obtain ⟨va, hva, ad, had, he⟩ := h
  injection he with e1 e2; subst e1; subst e2
  obtain ⟨rfl, _⟩ := addrOf_eq had
  obtain ⟨p, hp, ex⟩ := (ev_sound ht hx hva).of_ptr
  refine OpOK.pure (v' := .pointer (some ⟨p.blk, p.off + (ad.off + fd.offset), none⟩)) hr ?_ (.ptr _ _ p hp)
  simp only [execOp, hop, ex, Instr.fieldAt, Instr.sureAddr, fieldPlace, Sem.run_bind, run_underlying hu, Result.andThen_ok, hf, Sem.run_pure, szT_run hn, h0, if_false, Addr_add, Nat.add_assoc]

theorem iaddrS_ok {t el : TypeId} {sz : Nat} {x i : Operand} {x' i' : Arg} (hr : HR σ base B H w) (ht : TR σ B e a) (hop : o.op = .indexAddr t x i)
    (hu : P.underlying t = some (.slice el)) (hn : szT P el = some sz)
    (hx : cArg τ σ x = some x') (hi : cArg τ σ i = some i') (h : aop (.iaddrS sz x' i') e H = some (v, H')) : OpOK P σ base B H w a o v H' := by
  simp only [aop] at h
  split at h
  · rename_i ad n z k m hvx hvi
    split at h
    · rename_i hb
      injection h with h; injection h with e1 e2; subst e1; subst e2
      have ei := (ev_sound ht hi hvi).of_int
      obtain ⟨p, c, hp, hs, hcase⟩ := (ev_sound ht hx hvx).of_slice
      rcases hcase with ⟨ex, hnc, _⟩ | ⟨h0, _⟩
      · refine OpOK.pure (v' := .pointer (some ⟨p.blk, p.off + (ad.off + m.toNat * sz), none⟩)) hr ?_ (.ptr _ _ p hp)
        simp only [execOp, hop, ex, ei, Instr.indexAt, asIntOf, Sem.run_bind, run_underlying hu, Result.andThen_ok, Sem.run_pure, Addr_add, Nat.add_assoc, Sem.run_ite, hb, and_self, if_true, szT_run hn]
      · omega
    · simp at h
  · simp at h

theorem iaddrA_ok {t el : TypeId} {sz n : Nat} {x i : Operand} {x' i' : Arg} (hr : HR σ base B H w) (ht : TR σ B e a) (hop : o.op = .indexAddr t x i)
    (hu : P.underlying t = some (.array n el)) (hn : szT P el = some sz)
    (hx : cArg τ σ x = some x') (hi : cArg τ σ i = some i') (h : aop (.iaddrA n sz x' i') e H = some (v, H')) : OpOK P σ base B H w a o v H' := by
  simp only [aop, Option.bind_eq_some_iff] at h
  obtain ⟨vx, hvx, ad, had, vi, hvi, m, hm, h⟩ := h
  split at h
  · rename_i hb
    injection h with h; injection h with e1 e2; subst e1; subst e2
    obtain ⟨k, rfl⟩ := intOf_eq hm
    obtain ⟨rfl, _⟩ := addrOf_eq had
    have ei := (ev_sound ht hi hvi).of_int
    obtain ⟨p, hp, ex⟩ := (ev_sound ht hx hvx).of_ptr
    refine OpOK.pure (v' := .pointer (some ⟨p.blk, p.off + (ad.off + m.toNat * sz), none⟩)) hr ?_ (.ptr _ _ p hp)
    simp only [execOp, hop, ex, ei, Instr.indexAt, asIntOf, Instr.sureAddr, Sem.run_bind, run_underlying hu, Result.andThen_ok, Sem.run_pure, Addr_add, Nat.add_assoc, Sem.run_ite, hb, and_self, if_true, szT_run hn]
  · simp at h

theorem idxS_ok {t : TypeId} {x i : Operand} {x' i' : Arg} (hr : HR σ base B H w) (ht : TR σ B e a) (hop : o.op = .index t x i)
    (hu : P.underlying t = some .string)
    (hx : cArg τ σ x = some x') (hi : cArg τ σ i = some i') (h : aop (.idxS x' i') e H = some (v, H')) : OpOK P σ base B H w a o v H' := by
  simp only [aop] at h
  split at h
  · rename_i s k m hvx hvi
    split at h
    · rename_i hb
      simp only [Option.map_eq_some_iff] at h
      obtain ⟨b, hbb, he⟩ := h
      injection he with e1 e2; subst e1; subst e2
      have ei := (ev_sound ht hi hvi).of_int
      have ex := (ev_sound ht hx hvx).of_string
      refine OpOK.pure hr ?_ (.atom _ rfl)
      simp only [execOp, hop, ex, ei, Instr.index, asIntOf, Sem.run_bind, run_underlying hu, Result.andThen_ok, Sem.run_pure, hb, if_true, hbb]
    · simp at h
  · simp at h

theorem part_run {t : TypeId} {n : Option Nat} {cs cs' : List Value} {off : Nat} {v : Value} (hn : shT P t = some n) (hv : VRs σ B cs cs') (h : partOf n cs off = some v) (w : World) :
    ∃ v', (part t ⟨cs'⟩ off).run P w = .ok v' w ∧ VR σ B v v' := by
  unfold shT at hn
  split at hn
  · rename_i hag
    simp only [Option.map_eq_some_iff] at hn
    obtain ⟨m, hm, rfl⟩ := hn
    simp only [partOf] at h
    split at h
    · rename_i hle
      injection h with h; subst h
      refine ⟨.agg (((cs'.drop off).take m).toArray), ?_, .agg' ((hv.drop off).take m)⟩
      simp only [part, Sem.run_bind, isAgg_run hag, Result.andThen_ok, if_true, szT_run hm, Sem.run_pure]
      congr 2
      simp
    · simp at h
  · rename_i hag
    injection hn with hn; subst hn
    simp only [partOf] at h
    obtain ⟨x', hx', r⟩ := hv.get h
    refine ⟨x', ?_, r⟩
    have : (⟨cs'⟩ : Array Value)[off]? = some x' := by simpa using hx'
    simp only [part, Sem.run_bind, isAgg_run hag, Result.andThen_ok, Bool.false_eq_true, if_false, this, Sem.run_pure]
  · simp at hn

theorem idxA_ok {t el : TypeId} {sz n : Nat} {sh : Option Nat} {x i : Operand} {x' i' : Arg} (hr : HR σ base B H w) (ht : TR σ B e a) (hop : o.op = .index t x i)
    (hu : P.underlying t = some (.array n el)) (hn : szT P el = some sz) (hs : shT P el = some sh) (hz : sz = sh.getD 1)
    (hx : cArg τ σ x = some x') (hi : cArg τ σ i = some i') (h : aop (.idxA n sh x' i') e H = some (v, H')) : OpOK P σ base B H w a o v H' := by
  simp only [aop] at h
  split at h
  · rename_i cs k m hvx hvi
    split at h
    · rename_i hb
      simp only [Option.map_eq_some_iff] at h
      obtain ⟨r, hr0, he⟩ := h
      injection he with e1 e2; subst e1; subst e2
      have ei := (ev_sound ht hi hvi).of_int
      obtain ⟨cs', ex, rv⟩ := (ev_sound ht hx hvx).of_agg
      obtain ⟨v', hv', rr⟩ := part_run (P := P) hs rv hr0 w
      refine OpOK.pure hr ?_ rr
      rw [← hz] at hv'
      simp only [execOp, hop, ex, ei, Instr.index, asIntOf, Sem.run_bind, run_underlying hu, Result.andThen_ok, Sem.run_pure, hb, and_self, if_true, szT_run hn, hv']
    · simp at h
  · simp at h

theorem fld_ok {t : TypeId} {fs : Array Field} {fd : Field} {f : Nat} {sh : Option Nat} {x : Operand} {x' : Arg} (hr : HR σ base B H w) (ht : TR σ B e a) (hop : o.op = .field t x f)
    (hu : P.underlying t = some (.struct fs)) (hf : fs[f]? = some fd) (hs : shT P fd.type = some sh)
    (hx : cArg τ σ x = some x') (h : aop (.fld fd.offset sh x') e H = some (v, H')) : OpOK P σ base B H w a o v H' := by
  simp only [aop] at h
  split at h
  · rename_i cs hvx
    simp only [Option.map_eq_some_iff] at h
    obtain ⟨r, hr0, he⟩ := h
    injection he with e1 e2; subst e1; subst e2
    obtain ⟨cs', ex, rv⟩ := (ev_sound ht hx hvx).of_agg
    obtain ⟨v', hv', rr⟩ := part_run (P := P) hs rv hr0 w
    refine OpOK.pure hr ?_ rr
    simp only [execOp, hop, ex, Instr.field, asAgg, Sem.run_bind, run_underlying hu, Result.andThen_ok, Sem.run_pure, hf, hv']
  · simp at h

theorem ext_ok {i : Nat} {x : Operand} {x' : Arg} (hr : HR σ base B H w) (ht : TR σ B e a) (hop : o.op = .extract x i)
    (hx : cArg τ σ x = some x') (h : aop (.ext i x') e H = some (v, H')) : OpOK P σ base B H w a o v H' := by
  simp only [aop] at h
  split at h
  · rename_i vs hvx
    simp only [Option.map_eq_some_iff] at h
    obtain ⟨r, hr0, he⟩ := h
    injection he with e1 e2; subst e1; subst e2
    obtain ⟨vs', ex, rv⟩ := (ev_sound ht hx hvx).of_tuple
    obtain ⟨v', hv', rr⟩ := rv.get hr0
    refine OpOK.pure hr ?_ rr
    have : vs'[i]? = some v' := by simpa using hv'
    simp only [execOp, hop, ex, Instr.extract, Sem.run_bind, this, Sem.run_pure, Result.andThen_ok]
  · simp at h

end
end Go.Proofs.Ytlbhbjaimcinbaa.AI
