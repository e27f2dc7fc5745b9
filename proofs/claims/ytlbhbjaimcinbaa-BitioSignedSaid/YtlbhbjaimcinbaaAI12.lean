/- Operations, ninth part: copy, structs compared; all of them together. -/
import Derived.Test.YtlbhbjaimcinbaaAI11
namespace Go.Proofs.Ytlbhbjaimcinbaa.AI
open Go

section
variable {P : Program} {τ σ : Nat → Nat} {base : Nat} {B : Map} {H : Heap} {w : World} {e : Env} {a : Act} {o : Oper} {v : Value} {H' : Heap}

theorem copy_ok {args : Array Operand} {tys : Array TypeId} {t1 el : TypeId} {sz : Nat} {d' s' : Arg} (hr : HR σ base B H w) (ht : TR σ B e a)
    (hop : o.op = .call { callee := .builtin .copy, args, argTypes := tys }) (hty : tys[0]? = some t1) (hu : P.underlying t1 = some (.slice el)) (hs : szT P el = some sz)
    (hc : cArgs τ σ args.toList = some [d', s']) (h : aop (.copy sz d' s') e H = some (v, H')) : OpOK P σ base B H w a o v H' := by
  obtain ⟨x, y, rfl, hx, hy⟩ := args2 hc
  obtain ⟨cs0, hexec⟩ := exec_builtin (a := a) hop
  simp only [aop, Option.bind_eq_some_iff] at h
  obtain ⟨vd, hvd, vs, hvs, h⟩ := h
  split at h
  · rename_i ad n z
    simp only [Option.bind_eq_some_iff, Option.map_eq_some_iff] at h
    obtain ⟨m, hm, cs, hcs, H1, hst, he⟩ := h
    injection he with e1 e2; subst e1; subst e2
    have rd := ev_sound ht hx hvd
    have rs := ev_sound ht hy hvs
    obtain ⟨p, c, hp, hspot, hcase⟩ := rd.of_slice
    obtain ⟨ab, ao, asp⟩ := ad
    simp only at hspot; subst hspot
    obtain ⟨new', hfirst, rnew, hlen, hnl, hfirst2⟩ := firstCells_run (P := P) hr rs hm hcs
    have hstore := hst
    simp only [AI.hstore, Option.bind_eq_some_iff] at hstore
    obtain ⟨b, hb, hif⟩ := hstore
    have hrw : b.rw = true := by
      split at hif
      · rename_i hc2; simp only [Bool.and_eq_true] at hc2; exact hc2.1.1
      · simp at hif
    obtain ⟨g, f, zz, cs1, ty, fr, e1, _⟩ := hr.rw _ b hb hrw
    rw [e1] at hp; injection hp with hp; subst hp
    rcases hcase with ⟨ed, hnc, hsz⟩ | ⟨_, hs0, _⟩
    · -- the first cells of what is copied
      obtain ⟨w', hrun, hr', hstp⟩ := store_run (P := P) hr e1 (rnew.take (min m n * sz)) hst
      refine ⟨.int .i64 (min m n : Nat), w', B, .inl ?_, .atom _ rfl, hr', hstp⟩
      rw [hexec]
      have h1 : (Builtin.copy_ tys o.type #[a.eval x, a.eval y]).run P w = .ok (.int .i64 (min m n : Nat)) w' := by
        simp only [Builtin.copy_, hty, List.getElem?_toArray, List.getElem?_cons_zero, List.getElem?_cons_succ, Sem.run_bind, run_underlying hu, Result.andThen_ok, ed, hlen w, szT_run hs]
        have := hfirst2 (min m n) (Nat.min_le_left _ _)
        rw [show Nat.min m n = min m n from rfl, this]
        simp only [Result.andThen_ok, hrun, Sem.run_pure, goInt]
      simp only [List.map_toArray, List.map_cons, List.map_nil, builtin, Sem.run_bind, h1, Result.andThen_ok, Sem.run_pure]
    · simp at hs0
  · simp at h

/-! Structs compared. -/

theorem eqL_append : ∀ (a b : List Ty) (x1 x2 y1 y2 : List Value), x1.length = a.length → y1.length = a.length →
    eqL (a ++ b) (x1 ++ x2) (y1 ++ y2) = (eqL a x1 y1).bind fun r => if r then eqL b x2 y2 else some false := by
  intro a
  induction a with
  | nil =>
    intro b x1 x2 y1 y2 h1 h2
    have : x1 = [] := List.eq_nil_of_length_eq_zero h1
    subst this
    have : y1 = [] := List.eq_nil_of_length_eq_zero h2
    subst this
    simp [eqL]
  | cons t a ih =>
    intro b x1 x2 y1 y2 h1 h2
    cases x1 with
    | nil => simp at h1
    | cons x x1 =>
      cases y1 with
      | nil => simp at h2
      | cons y y1 =>
        simp only [List.cons_append, eqL]
        cases eq1 t x y with
        | none => rfl
        | some r => cases r <;> simp [ih b x1 x2 y1 y2 (by simpa using h1) (by simpa using h2)]

theorem eqL_sound : ∀ {tys : List Ty} {xs ys xs' ys' : List Value} {r : Bool}, VRs σ B xs xs' → VRs σ B ys ys' → eqL tys xs ys = some r → eqL tys xs' ys' = some r := by
  intro tys
  induction tys with
  | nil => intro xs ys xs' ys' r _ _ h; simpa [eqL] using h
  | cons t tys ih =>
    intro xs ys xs' ys' r hx hy h
    cases xs with
    | nil => simp [eqL] at h
    | cons x xs =>
      cases ys with
      | nil => simp [eqL] at h
      | cons y ys =>
        obtain ⟨x', xs'', rfl, rx, hx⟩ := hx.of_cons
        obtain ⟨y', ys'', rfl, ry, hy⟩ := hy.of_cons
        simp only [eqL, Option.bind_eq_some_iff] at h ⊢
        obtain ⟨q, hq, h⟩ := h
        have hat : AI.atom x = true ∧ AI.atom y = true := by
          cases t <;> cases x <;> cases y <;> simp [eq1] at hq <;> exact ⟨rfl, rfl⟩
        rw [rx.atom_eq hat.1, ry.atom_eq hat.2]
        refine ⟨q, hq, ?_⟩
        cases q with
        | true => simp only [if_true] at h ⊢; exact ih hx hy h
        | false => simpa using h

theorem tysOf_run : ∀ (d : Nat) (t : TypeId) (tys : List Ty), tysOf P d t = some tys → ∀ (D : Nat), d ≤ D → ∀ (x y : Value) (cs ds : List Value) (r : Bool),
    ((isAggT P t = some true ∧ x = .agg ⟨cs⟩ ∧ y = .agg ⟨ds⟩) ∨ (isAggT P t = some false ∧ cs = [x] ∧ ds = [y])) → cs.length = tys.length → ds.length = tys.length → eqL tys cs ds = some r →
    ∀ w, (Op.equalIn D t x y).run P w = .ok r w := by
  intro d
  induction d with
  | zero => intro t tys h; simp [tysOf] at h
  | succ d ih =>
    intro t tys h D hD x y cs ds r hsh hl1 hl2 he w
    obtain ⟨D, rfl⟩ : ∃ k, D = k + 1 := ⟨D - 1, by omega⟩
    have scal : ∀ ty, tys = [ty] → isAggT P t = some false → ∃ q, eq1 ty x y = some q ∧ r = q := by
      intro ty e1 hna
      rcases hsh with ⟨ha, _⟩ | ⟨_, rfl, rfl⟩
      · rw [hna] at ha; simp at ha
      · subst e1
        simp only [eqL, Option.bind_eq_some_iff] at he
        obtain ⟨q, hq, he⟩ := he
        cases q <;> simp at he <;> exact ⟨_, hq, he⟩
    simp only [tysOf] at h
    split at h
    · rename_i hu
      injection h with h
      obtain ⟨q, hq, rfl⟩ := scal .bool h.symm (by simp [isAggT, hu])
      cases x <;> cases y <;> simp only [eq1, reduceCtorEq, Option.some.injEq] at hq
      subst hq
      rw [Op.equalIn]; simp only [Sem.run_bind, run_underlying hu, Result.andThen_ok]; rfl
    · rename_i k0 hu
      injection h with h
      obtain ⟨q, hq, rfl⟩ := scal .int h.symm (by simp [isAggT, hu])
      cases x <;> cases y <;> simp only [eq1, reduceCtorEq] at hq
      split at hq
      · rename_i hk
        injection hq with hq; subst hq; subst hk
        rw [Op.equalIn]; simp only [Sem.run_bind, run_underlying hu, Result.andThen_ok, if_true]; rfl
      · simp at hq
    · rename_i hu
      injection h with h
      obtain ⟨q, hq, rfl⟩ := scal .str h.symm (by simp [isAggT, hu])
      cases x <;> cases y <;> simp only [eq1, reduceCtorEq, Option.some.injEq] at hq
      subst hq
      rw [Op.equalIn]; simp only [Sem.run_bind, run_underlying hu, Result.andThen_ok]; rfl
    · rename_i fs hu
      split at h
      · rename_i hst
        have hfo : P.fieldsOf t = fs := by simp [Program.fieldsOf, hu]
        rcases hsh with ⟨_, rfl, rfl⟩ | ⟨hna, _⟩
        · rw [run_equalIn_struct w D t ⟨cs⟩ ⟨ds⟩ (by rw [hfo]; exact hu) hst, hfo]
          -- field by field
          have key : ∀ (l : List Field) (n : Nat) (tys : List Ty), tysF P (tysOf P d) n l = some tys → ∀ (p1 p2 c1 c2 : List Value) (r : Bool), p1.length = n → p2.length = n → c1.length = tys.length → c2.length = tys.length →
              eqL tys c1 c2 = some r → ∀ w, (Op.eqFields D ⟨p1 ++ c1⟩ ⟨p2 ++ c2⟩ l).run P w = .ok r w := by
            intro l
            induction l with
            | nil =>
              intro n tys h p1 p2 c1 c2 r _ _ _ _ he w
              simp only [tysF, Option.some.injEq] at h; subst h
              simp only [eqL, Option.some.injEq] at he; subst he
              simp only [Op.eqFields, Sem.run_pure]
            | cons fd l ihl =>
              intro n tys h p1 p2 c1 c2 r hp1 hp2 hc1 hc2 he w
              simp only [tysF] at h
              split at h
              · simp at h
              · rename_i hnm
                simp only [not_or, Decidable.not_not] at hnm
                simp only [Option.bind_eq_some_iff] at h
                obtain ⟨ta, hta, sh, hsh, h⟩ := h
                split at h
                · rename_i hta2
                  simp only [Option.map_eq_some_iff] at h
                  obtain ⟨tb, htb, rfl⟩ := h
                  have hl1 : (c1.take ta.length).length = ta.length := by simp at hc1 ⊢; omega
                  have hl2 : (c2.take ta.length).length = ta.length := by simp at hc2 ⊢; omega
                  rw [← List.take_append_drop ta.length c1, ← List.take_append_drop ta.length c2, eqL_append _ _ _ _ _ _ hl1 hl2] at he
                  simp only [Option.bind_eq_some_iff] at he
                  obtain ⟨q, hq, he⟩ := he
                  -- the two parts
                  have hpart : ∀ (p c : List Value), p.length = n → ta.length ≤ c.length → ∃ u, (∀ w, (part fd.type ⟨p ++ c⟩ fd.offset).run P w = .ok u w) ∧ ((isAggT P fd.type = some true ∧ u = .agg ⟨c.take ta.length⟩) ∨ (isAggT P fd.type = some false ∧ c.take ta.length = [u])) := by
                    intro p c hp hc
                    unfold shT at hsh
                    split at hsh
                    · rename_i hag
                      simp only [Option.map_eq_some_iff] at hsh
                      obtain ⟨m, hm, rfl⟩ := hsh
                      simp only [Option.getD_some] at hta2
                      refine ⟨.agg ⟨c.take ta.length⟩, fun w => ?_, .inl ⟨hag, rfl⟩⟩
                      simp only [part, Sem.run_bind, isAgg_run hag, Result.andThen_ok, if_true, szT_run hm, Sem.run_pure]
                      congr 2
                      rw [hnm.2, ← hta2, ← hp]
                      apply Array.ext'
                      simp
                    · rename_i hag
                      injection hsh with hsh; subst hsh
                      simp only [Option.getD_none] at hta2
                      have hne : 0 < c.length := by omega
                      refine ⟨c[0], fun w => ?_, .inr ⟨hag, ?_⟩⟩
                      · have : (⟨p ++ c⟩ : Array Value)[fd.offset]? = some c[0] := by
                          rw [hnm.2, ← hp]; simp [hne]
                        simp only [part, Sem.run_bind, isAgg_run hag, Result.andThen_ok, Bool.false_eq_true, if_false, this, Sem.run_pure]
                      · rw [hta2]
                        cases c with
                        | nil => simp at hne
                        | cons u c => simp
                    · simp at hsh
                  obtain ⟨u1, hu1, s1⟩ := hpart p1 c1 hp1 (by simp at hc1; omega)
                  obtain ⟨u2, hu2, s2⟩ := hpart p2 c2 hp2 (by simp at hc2; omega)
                  have hrun := ih fd.type ta hta D (by omega) u1 u2 (c1.take ta.length) (c2.take ta.length) q (by
                    rcases s1 with ⟨g1, rfl⟩ | ⟨g1, h1⟩ <;> rcases s2 with ⟨g2, rfl⟩ | ⟨g2, h2⟩
                    · exact .inl ⟨g1, rfl, rfl⟩
                    · rw [g1] at g2; simp at g2
                    · rw [g1] at g2; simp at g2
                    · exact .inr ⟨g1, h1, h2⟩) hl1 hl2 hq
                  simp only [Op.eqFields, ne_eq, hnm.1, not_false_iff, if_true, Sem.run_bind, hu1, hu2, Result.andThen_ok, hrun]
                  cases q with
                  | false =>
                    simp at he; subst he
                    simp only [Bool.not_false, if_true, Sem.run_pure]
                  | true =>
                    simp only [if_true] at he
                    simp only [Bool.not_true, Bool.false_eq_true, if_false]
                    have := ihl (n + ta.length) tb htb (p1 ++ c1.take ta.length) (p2 ++ c2.take ta.length) (c1.drop ta.length) (c2.drop ta.length) r (by simp at hl1 ⊢; omega) (by simp at hl2 ⊢; omega) (by simp at hc1 ⊢; omega) (by simp at hc2 ⊢; omega) he w
                    simpa only [List.append_assoc, List.take_append_drop] using this
                · simp at h
          have := key fs.toList 0 tys h [] [] cs ds r rfl rfl hl1 hl2 he w
          simpa using this
        · simp [isAggT, hu] at hna
      · simp at h
    · simp at h

theorem eqs_ok {op : BinOp} {neg : Bool} {t s : TypeId} {fs : Array Field} {tys : List Ty} {x y : Operand} {x' y' : Arg} (hr : HR σ base B H w) (ht : TR σ B e a) (hop : o.op = .binOp op t x y s)
    (hu : P.underlying t = some (.struct fs)) (hg : P.eqGuardType P.depth t = false) (hty : tysOf P 9 t = some tys)
    (hx : cArg τ σ x = some x') (hy : cArg τ σ y = some y') (ho : (op = .eql ∧ neg = false) ∨ (op = .neq ∧ neg = true)) (h : aop (.eqs neg tys x' y') e H = some (v, H')) : OpOK P σ base B H w a o v H' := by
  simp only [aop] at h
  split at h
  · rename_i xs ys hvx hvy
    split at h
    · rename_i hlen
      simp only [Option.map_eq_some_iff] at h
      obtain ⟨r, hr0, he⟩ := h
      injection he with e1 e2; subst e1; subst e2
      obtain ⟨xs', ex, rx⟩ := (ev_sound ht hx hvx).of_agg
      obtain ⟨ys', ey, ry⟩ := (ev_sound ht hy hvy).of_agg
      have hag : isAggT P t = some true := by simp [isAggT, hu]
      have hrun := tysOf_run (P := P) 9 t tys hty 10000 (by omega) (.agg xs') (.agg ys') xs'.toList ys'.toList r (.inl ⟨hag, rfl, rfl⟩)
        (by have := rx.1; simp at this ⊢; omega) (by have := ry.1; simp at this ⊢; omega) (eqL_sound rx ry hr0) w
      have heq : (Op.equal t (.agg xs') (.agg ys')).run P w = .ok r w := hrun
      refine OpOK.pure hr ?_ (.atom _ rfl)
      have hgd : (eqGuard op t x y (.agg xs') (.agg ys')).run P w = .ok () w := by
        rcases ho with ⟨rfl, rfl⟩ | ⟨rfl, rfl⟩ <;> simp [eqGuard, hg]
      rcases ho with ⟨rfl, rfl⟩ | ⟨rfl, rfl⟩
      · simp only [execOp, hop, ex, ey, Sem.run_bind, hgd, Result.andThen_ok, binOp, heq, Sem.run_pure]
        simp
      · simp only [execOp, hop, ex, ey, Sem.run_bind, hgd, Result.andThen_ok, binOp, heq, Sem.run_pure]
        simp
    · simp at h
  · simp at h

end
end Go.Proofs.Ytlbhbjaimcinbaa.AI
