/- Statements and functions: what the interpreter says, the machine does. -/
import Derived.Test.YtlbhbjaimcinbaaAI18
namespace Go.Proofs.Ytlbhbjaimcinbaa.AI
open Go

def Exm : AExit → Exit → Prop
  | .normal, .normal => True
  | .ret, .ret => True
  | .exit i, .exit j => i = j
  | _, _ => False

section
variable {P : Program} {τ σ : Nat → Nat} {base : Nat}
variable {call : Nat → List Value → Heap → Option (Value × Heap)}

def Post (σ : Nat → Nat) (base : Nat) (B : Map) (H : Heap) (w : World) (a : Act) (x : AExit) (e' : Env) (H' : Heap) : Exit → Act → World → Prop :=
  fun ex a' w' => Exm x ex ∧ ∃ B', TR σ B' e' a' ∧ HR σ base B' H' w' ∧ Stp B H w B' H' w' ∧ a'.defers = a.defers ∧ a'.tmps.size = a.tmps.size

theorem lk_keep {e : Env} : ∀ {l : List Nat} {t : Nat} {v : Value}, lk (keep e l) t = some v → lk e t = some v := by
  intro l
  induction l with
  | nil => intro t v h; simp [keep, lk] at h
  | cons u l ih =>
    intro t v h
    simp only [keep] at h
    split at h
    · rename_i w hw
      simp only [lk] at h
      split at h
      · rename_i hu; subst hu; rw [hw]; exact h
      · exact ih h
    · exact ih h

theorem TR.keep {B : Map} {e : Env} {a : Act} (h : TR σ B e a) (l : List Nat) : TR σ B (AI.keep e l) a := fun t v hv => h t v (lk_keep hv)

theorem Stp.of_draw {B B' : Map} {H H' : Heap} {w w' : World} {n : Nat} (h : Stp B H { w with drawn := n } B' H' w') : Stp B H w B' H' w' := ⟨h.ext, h.os, h.tape, h.output, h.size, h.keep, h.own⟩

theorem ax_sound (hm : P.follows .mixedOrders = true) (hcall : CallOK P σ base call) {live : Nat → List Nat} {ordr : Nat → List (Nat × Nat)} {nt n : Nat} : ∀ {c : Code} {ac : ACode}, comp P τ σ live ordr nt c = some ac →
    ∀ {e e' : Env} {H H' : Heap} {x : AExit}, ax call n ac e H = some (x, e', H') → ∀ {B : Map} {w : World} {a : Act}, nt ≤ a.tmps.size → TR σ B e a → HR σ base B H w → c.wp P (Post σ base B H w a x e' H') a w := by
  intro c
  induction c with
  | skip =>
    intro ac hc e e' H H' x h B w a _ ht hr
    simp only [comp, Option.some.injEq] at hc; subst hc
    simp only [ax, Option.some.injEq, Prod.mk.injEq] at h
    obtain ⟨rfl, rfl, rfl⟩ := h
    exact wp_skip ⟨trivial, B, ht, hr, .refl _ _ _, rfl, rfl⟩
  | ret =>
    intro ac hc e e' H H' x h B w a _ ht hr
    simp only [comp, Option.some.injEq] at hc; subst hc
    simp only [ax, Option.some.injEq, Prod.mk.injEq] at h
    obtain ⟨rfl, rfl, rfl⟩ := h
    exact wp_ret ⟨trivial, B, ht, hr, .refl _ _ _, rfl, rfl⟩
  | exit id =>
    intro ac hc e e' H H' x h B w a _ ht hr
    simp only [comp, Option.some.injEq] at hc; subst hc
    simp only [ax, Option.some.injEq, Prod.mk.injEq] at h
    obtain ⟨rfl, rfl, rfl⟩ := h
    exact wp_exit ⟨rfl, B, ht, hr, .refl _ _ _, rfl, rfl⟩
  | seq p q ihp ihq =>
    intro ac hc e e' H H' x h B w a hn ht hr
    simp only [comp, Option.bind_eq_some_iff] at hc
    obtain ⟨p', hp, q', hq, hc⟩ := hc
    injection hc with hc; subst hc
    simp only [ax, Option.bind_eq_some_iff] at h
    obtain ⟨⟨x1, e1, H1⟩, h1, h⟩ := h
    refine wp_seq (wp_mono (ihp hp h1 hn ht hr) ?_)
    rintro ex a1 w1 ⟨hx, B1, t1, r1, s1, d1, z1⟩
    cases x1 with
    | normal =>
      cases ex <;> simp only [Exm] at hx
      refine wp_mono (ihq hq h (by rw [z1]; exact hn) t1 r1) ?_
      rintro ex a2 w2 ⟨hx, B2, t2, r2, s2, d2, z2⟩
      exact ⟨hx, B2, t2, r2, s1.trans s2, d2.trans d1, z2.trans z1⟩
    | ret =>
      simp only [Option.some.injEq, Prod.mk.injEq] at h
      obtain ⟨rfl, rfl, rfl⟩ := h
      cases ex <;> simp only [Exm] at hx
      exact ⟨trivial, B1, t1, r1, s1, d1, z1⟩
    | exit id =>
      simp only [Option.some.injEq, Prod.mk.injEq] at h
      obtain ⟨rfl, rfl, rfl⟩ := h
      cases ex <;> simp only [Exm] at hx
      exact ⟨hx, B1, t1, r1, s1, d1, z1⟩
  | cond k p q ihp ihq =>
    intro ac hc e e' H H' x h B w a hn ht hr
    simp only [comp, Option.bind_eq_some_iff] at hc
    obtain ⟨k', hk, p', hp, q', hq, hc⟩ := hc
    injection hc with hc; subst hc
    simp only [ax] at h
    split at h
    · rename_i hv
      exact wp_cond_true (ev_sound ht hk hv).of_bool (ihp hp h hn ht hr)
    · rename_i hv
      exact wp_cond_false (ev_sound ht hk hv).of_bool (ihq hq h hn ht hr)
    · simp at h
  | block id p ihp =>
    intro ac hc e e' H H' x h B w a hn ht hr
    simp only [comp, Option.map_eq_some_iff] at hc
    obtain ⟨p', hp, rfl⟩ := hc
    simp only [ax, Option.map_eq_some_iff] at h
    obtain ⟨⟨x1, e1, H1⟩, h1, he⟩ := h
    simp only [Prod.mk.injEq] at he
    obtain ⟨hx1, rfl, rfl⟩ := he
    refine wp_block (wp_mono (ihp hp h1 hn ht hr) ?_)
    rintro ex a1 w1 ⟨hx, B1, t1, r1, s1, d1, z1⟩
    cases x1 with
    | normal =>
      rw [if_neg (by simp)] at hx1; subst hx1
      cases ex <;> simp only [Exm] at hx
      exact ⟨trivial, B1, t1, r1, s1, d1, z1⟩
    | ret =>
      rw [if_neg (by simp)] at hx1; subst hx1
      cases ex <;> simp only [Exm] at hx
      exact ⟨trivial, B1, t1, r1, s1, d1, z1⟩
    | exit j =>
      cases ex <;> simp only [Exm] at hx
      subst hx
      simp only [Exit.inBlock]
      by_cases hj : j = id
      · subst hj
        rw [if_pos rfl] at hx1; subst hx1
        rw [if_pos rfl]
        exact ⟨trivial, B1, t1, r1, s1, d1, z1⟩
      · rw [if_neg (by simpa using hj)] at hx1; subst hx1
        rw [if_neg hj]
        exact ⟨rfl, B1, t1, r1, s1, d1, z1⟩
  | loop p ihp =>
    intro ac hc e e' H H' x h B w a hn ht hr
    simp only [comp, Option.map_eq_some_iff] at hc
    obtain ⟨p', hp, rfl⟩ := hc
    simp only [ax] at h
    have key : ∀ (m : Nat) {e : Env} {H : Heap}, iter (ax call n p') m e H = some (x, e', H') → ∀ {B1 : Map} {w1 : World} {a1 : Act}, nt ≤ a1.tmps.size → TR σ B1 e a1 → HR σ base B1 H w1 → 
        ∀ {Q : Exit → Act → World → Prop}, (∀ ex a' w', Post σ base B1 H w1 a1 x e' H' ex a' w' → x ≠ .normal → Q ex a' w') → Code.rounds P p Q m a1 w1 := by
      intro m
      induction m with
      | zero => intro e H h; simp [iter] at h
      | succ m ih =>
        intro e H h B1 w1 a1 hn ht hr Q hQ
        simp only [iter, Option.bind_eq_some_iff] at h
        obtain ⟨⟨x1, e1, H1⟩, h1, h⟩ := h
        rw [rounds_succ]
        refine wp_mono (ihp hp h1 hn ht hr) ?_
        rintro ex a2 w2 ⟨hx, B2, t2, r2, s2, d2, z2⟩
        cases x1 with
        | normal =>
          cases ex <;> simp only [Exm] at hx
          refine ih h (by rw [z2]; exact hn) t2 r2 fun ex a3 w3 hp3 hne => ?_
          obtain ⟨hx3, B3, t3, r3, s3, d3, z3⟩ := hp3
          exact hQ ex a3 w3 ⟨hx3, B3, t3, r3, s2.trans s3, d3.trans d2, z3.trans z2⟩ hne
        | ret =>
          simp only [Option.some.injEq, Prod.mk.injEq] at h
          obtain ⟨rfl, rfl, rfl⟩ := h
          cases ex <;> simp only [Exm] at hx
          exact hQ _ _ _ ⟨trivial, B2, t2, r2, s2, d2, z2⟩ (by simp)
        | exit j =>
          simp only [Option.some.injEq, Prod.mk.injEq] at h
          obtain ⟨rfl, rfl, rfl⟩ := h
          cases ex <;> simp only [Exm] at hx
          exact hQ _ _ _ ⟨hx, B2, t2, r2, s2, d2, z2⟩ (by simp)
    exact wp_loop_rounds n (key n h hn ht hr fun ex a' w' hp _ => hp)
  | region id ops draw =>
    intro ac hc e e' H H' x h B w a hn ht hr
    simp only [comp, Option.bind_eq_some_iff] at hc
    obtain ⟨os, hos, hc⟩ := hc
    split at hc
    · rename_i hd
      have hdst : ∀ o ∈ ops.toList, ∀ t, o.dst = some t → t < a.tmps.size := by
        intro o ho t hto
        have := List.all_eq_true.1 hd o ho
        rw [hto] at this
        exact Nat.lt_of_lt_of_le (of_decide_eq_true this) hn
      cases draw with
      | false =>
        simp only [Bool.false_eq_true, if_false, Option.some.injEq] at hc; subst hc
        simp only [ax, Option.map_eq_some_iff] at h
        obtain ⟨⟨e1, H1⟩, h1, he⟩ := h
        simp only [Prod.mk.injEq] at he
        obtain ⟨rfl, rfl, rfl⟩ := he
        exact wp_region_list (aops_wp hcall hos hdst h1 hr ht fun a' w' B' t1 r1 s1 d1 z1 => ⟨trivial, B', t1.keep _, r1, s1, d1, z1⟩)
      | true =>
        simp only [if_true] at hc
        split at hc
        · rename_i hk
          injection hc with hc; subst hc
          simp only [ax, Option.map_eq_some_iff] at h
          obtain ⟨⟨e1, H1⟩, h1, he⟩ := h
          simp only [Prod.mk.injEq] at he
          obtain ⟨rfl, rfl, rfl⟩ := he
          exact any_wp hm hcall hos hk hd hn ht (hr.same rfl) h1 fun a' w' B' t1 r1 s1 d1 z1 => ⟨trivial, B', t1.keep _, r1, s1.of_draw, d1, z1⟩
        · simp at hc
    · simp at hc
  | _ => intro ac hc; simp [comp] at hc

theorem lk_argsE : ∀ {vs : List Value} {k t : Nat} {v : Value}, lk (argsE k vs) t = some v → k ≤ t ∧ vs[t - k]? = some v := by
  intro vs
  induction vs with
  | nil => intro k t v h; simp [argsE, lk] at h
  | cons x vs ih =>
    intro k t v h
    simp only [argsE, lk] at h
    split at h
    · rename_i hk; subst hk; injection h with h; subst h; simp
    · obtain ⟨h1, h2⟩ := ih h
      refine ⟨by omega, ?_⟩
      rw [show t - k = (t - (k + 1)) + 1 by omega, List.getElem?_cons_succ]
      exact h2

def resOne (tmps : Array Value) : ResultVar → Sem Value
  | .tmp t => pure (tmps.getD t undef)
  | .cell x t => do loadVar t (← asAddr (tmps.getD x undef))

theorem ares_run {B : Map} {H : Heap} {w : World} {e : Env} {a : Act} (hr : HR σ base B H w) (ht : TR σ B e a) : ∀ {rs : List ResultVar} {ars : List ARes} {vs : List Value}, cRes P rs = some ars → ares e H ars = some vs →
    ∃ vs', (rs.mapM (resOne a.tmps)).run P w = .ok vs' w ∧ VRs σ B vs vs' := by
  intro rs
  induction rs with
  | nil =>
    intro ars vs hc h
    simp only [cRes, Option.some.injEq] at hc; subst hc
    simp only [ares, Option.some.injEq] at h; subst h
    exact ⟨[], by simp, VRs.nil⟩
  | cons r rs ih =>
    intro ars vs hc h
    cases r with
    | tmp t =>
      simp only [cRes, Option.map_eq_some_iff] at hc
      obtain ⟨ars', hars, rfl⟩ := hc
      simp only [ares, Option.bind_eq_some_iff, Option.map_eq_some_iff] at h
      obtain ⟨v, hv, vs1, hvs1, rfl⟩ := h
      obtain ⟨v', hv', rv⟩ := ht t v hv
      obtain ⟨vs', hrun, rvs⟩ := ih hars hvs1
      refine ⟨v' :: vs', ?_, rvs.cons rv⟩
      have hg : a.tmps.getD t undef = v' := by simp [Array.getD_eq_getD_getElem?, hv']
      have h1 : (resOne a.tmps (.tmp t)).run P w = .ok v' w := by simp only [resOne, hg, Sem.run_pure]
      simp only [List.mapM_cons, Sem.run_bind, h1, Result.andThen_ok, hrun, Sem.run_pure]
    | cell x t =>
      simp only [cRes, Option.bind_eq_some_iff] at hc
      obtain ⟨n, hn, hc⟩ := hc
      split at hc
      · simp at hc
      · simp only [Option.map_eq_some_iff] at hc
        obtain ⟨ars', hars, rfl⟩ := hc
        simp only [ares, Option.bind_eq_some_iff, Option.map_eq_some_iff] at h
        obtain ⟨va, hva, ad, had, v, hv, vs1, hvs1, rfl⟩ := h
        obtain ⟨va', hva', rva⟩ := ht x va hva
        obtain ⟨rfl, hd⟩ := addrOf_eq had
        obtain ⟨p, hp, rfl⟩ := rva.of_ptr
        rw [hd] at hv
        obtain ⟨v', hrl, rv⟩ := loadAt_run (P := P) hr hp hn hv
        obtain ⟨vs', hrun, rvs⟩ := ih hars hvs1
        refine ⟨v' :: vs', ?_, rvs.cons rv⟩
        have hg : a.tmps.getD x undef = .pointer (some ⟨p.blk, p.off + ad.off, none⟩) := by simp [Array.getD_eq_getD_getElem?, hva']
        have h1 : (resOne a.tmps (.cell x t)).run P w = .ok v' w := by simp only [resOne, hg, asAddr, Sem.run_bind, Sem.run_pure, Result.andThen_ok, hrl]
        simp only [List.mapM_cons, Sem.run_bind, h1, Result.andThen_ok, hrun, Sem.run_pure]

theorem results_run {fn : Func} {B : Map} {H : Heap} {w : World} {e : Env} {a : Act} (hr : HR σ base B H w) (ht : TR σ B e a) {ars : List ARes} {vs : List Value} (hc : cRes P fn.results.toList = some ars) (h : ares e H ars = some vs) :
    ∃ v', (results fn a.tmps).run P w = .ok v' w ∧ VR σ B (tup vs) v' := by
  obtain ⟨vs', hrun, rvs⟩ := ares_run (P := P) hr ht hc h
  have hm : (fn.results.mapM (resOne a.tmps)).run P w = .ok ⟨vs'⟩ w := by
    rw [← Array.toList_mapM] at hrun
    simp only [Sem.run_map] at hrun
    cases hq : (fn.results.mapM (resOne a.tmps)).run P w with
    | ok r w1 =>
      rw [hq] at hrun
      simp only [Result.andThen_ok, Result.ok.injEq] at hrun
      obtain ⟨h0, rfl⟩ := hrun
      rw [← h0]
    | halt x w1 => rw [hq] at hrun; simp at hrun
  refine ⟨tup vs', ?_, ?_⟩
  · show (do let vs ← fn.results.mapM (resOne a.tmps); pure (if h : vs.size = 1 then vs[0] else .tuple vs) : Sem Value).run P w = _
    rw [Sem.run_bind, hm, Result.andThen_ok, Sem.run_pure]
    congr 1
    match vs' with
    | [] => rfl
    | [v] => rfl
    | v :: u :: r => rfl
  · match vs, rvs with
    | [], rvs =>
      have : vs' = [] := List.eq_nil_of_length_eq_zero rvs.1.symm
      subst this; exact .tuple' VRs.nil
    | [v], rvs =>
      obtain ⟨v', m, rfl, r1, r2⟩ := rvs.of_cons
      have : m = [] := List.eq_nil_of_length_eq_zero r2.1.symm
      subst this; exact r1
    | v :: u :: r, rvs =>
      obtain ⟨v', m, rfl, r1, r2⟩ := rvs.of_cons
      obtain ⟨u', m', rfl, r3, r4⟩ := r2.of_cons
      exact .tuple' ((r4.cons r3).cons r1)

/-- The table's functions are those of the program. -/
def Linked (P : Program) (σ : Nat → Nat) (tbl : Nat → Option AFn) : Prop :=
  ∀ (i : Nat) (F : AFn), tbl i = some F → ∃ (fn : Func) (τ : Nat → Nat) (live : Nat → List Nat) (ordr : Nat → List (Nat × Nat)), P.funcs[σ i]? = some fn ∧ compF P τ σ live ordr fn F.trunc F.iso = some F

theorem constV_ids : ∀ (d : Nat) (v : Value), constV d v = true → idsB d 0 v = true := by
  intro d
  induction d with
  | zero => intro v h; simp [constV] at h
  | succ d ih =>
    intro v h
    cases v with
    | agg cs => simp only [constV, idsB, List.all_eq_true] at h ⊢; exact fun x hx => ih x (h x hx)
    | tuple cs => simp only [constV, idsB, List.all_eq_true] at h ⊢; exact fun x hx => ih x (h x hx)
    | pointer a => cases a with
      | none => rfl
      | some a => simp [constV, AI.atom] at h
    | slice a n c => cases a with
      | none => exact h
      | some a => simp [constV, AI.atom] at h
    | func f a b => simp [constV, AI.atom] at h
    | _ => exact h

/-- A value that leads to no memory is related alike whatever the map. -/
theorem VR.anyMap {d : Nat} {B B' : Map} {v v' : Value} (h : constV d v = true) (r : VR σ B v v') : VR σ B' v v' := by
  have := r.cut 0 d (constV_ids d v h)
  exact this.mono fun i p hp => by simp [AI.cut] at hp

theorem HR.nothing {w : World} (h : base ≤ w.heap.size) : HR σ base (fun _ => none) [] w :=
  ⟨fun i b hi => by simp [hget] at hi, fun i b hi => by simp [hget] at hi, fun i j b c p q hi => by simp [hget] at hi, fun i p hp => by simp at hp, h⟩

theorem HR.beside {B : Map} {H : Heap} {w w' : World} (h : HR σ base B H w) (hs : w.heap.size ≤ w'.heap.size) (hk : ∀ g, g < w.heap.size → w'.heap[g]? = w.heap[g]?) : HR σ base B H w' := by
  refine ⟨fun i b hi hb => ?_, fun i b hi hb => ?_, h.inj, h.dom, Nat.le_trans h.big hs⟩
  · obtain ⟨g, f, z, cs, ty, fr, h1, h2, h3, h4⟩ := h.rw i b hi hb
    exact ⟨g, f, z, cs, ty, fr, h1, h2, by rw [hk g (Array.getElem?_eq_some_iff.1 h3).1]; exact h3, h4⟩
  · obtain ⟨g, o, h1, h2, h3⟩ := h.ro i b hi hb
    refine ⟨g, o, h1, h2, fun j x hx => ?_⟩
    obtain ⟨x', hx', hr⟩ := h3 j x hx
    refine ⟨x', ?_, hr⟩
    rw [← hx']
    unfold World.cell?
    rw [hk g (Nat.lt_of_lt_of_le h2 h.big)]

theorem Stp.beside {B B1 : Map} {H H1 : Heap} {w w' : World} (s : Stp (fun _ => none) [] w B1 H1 w') : Stp B H w B H w' :=
  ⟨.refl _, s.os, s.tape, s.output, s.size, fun g hg _ => s.keep g hg (by rintro ⟨i, b, p, hi, _⟩; simp [hget] at hi), fun g hg => .inl hg⟩

theorem ac_sound (hm : P.follows .mixedOrders = true) {tbl : Nat → Option AFn} (hl : Linked P σ tbl) : ∀ n, CallOK P σ base (ac tbl n) := by
  intro n
  induction n with
  | zero => intro f vs H v H' h; simp [ac] at h
  | succ n ih =>
    intro f vs H v H' h
    simp only [ac, Option.bind_eq_some_iff] at h
    obtain ⟨F, hF, h⟩ := h
    obtain ⟨fn, τ, live, ordr, hfn, hcomp⟩ := hl f F hF
    simp only [compF] at hcomp
    split at hcomp
    · simp at hcomp
    · rename_i hname
      simp only [Option.bind_eq_some_iff, Option.map_eq_some_iff] at hcomp
      obtain ⟨c, hc, b, hb, rs, hrs, hFe⟩ := hcomp
      obtain ⟨nt0, b0, rs0, tr⟩ := F
      simp only [AFn.mk.injEq, and_true] at hFe
      obtain ⟨rfl, rfl, rfl⟩ := hFe
      refine ⟨⟨fn, hfn, by simpa using hname, by rw [hc]; rfl⟩, fun B w vs' hr hv => ?_⟩
      split at h
      · rename_i hlen
        simp only at hlen
        split at h
        · rename_i hiso
          simp only [Bool.and_eq_true] at hiso
          simp only [Option.bind_eq_some_iff] at h
          obtain ⟨⟨v1, H1⟩, hc1, h⟩ := h
          split at h
          · rename_i hq
            simp only [Bool.and_eq_true] at hq
            simp only [Option.some.injEq, Prod.mk.injEq] at h
            obtain ⟨rfl, rfl⟩ := h
            have hvs : VRs σ (fun _ => none) vs vs' := ⟨hv.1, fun j x x' hx hx' => VR.anyMap (List.all_eq_true.1 hiso.2 x (List.mem_of_getElem? hx)) (hv.2 j x x' hx hx')⟩
            refine ((ih f vs [] v1 H1 hc1).2 _ w vs' (HR.nothing hr.big) hvs).mono fun e w1 he => ?_
            obtain ⟨v', B1, he, r1, r2, r3⟩ := he
            exact ⟨v', B, he, VR.anyMap hq.1 r1, hr.beside r3.size (fun g hg => r3.keep g hg (by rintro ⟨i, b, p, hi, _⟩; simp [hget] at hi)), r3.beside⟩
          · simp at h
        simp only [Option.bind_eq_some_iff] at h
        obtain ⟨⟨x, e1, H1⟩, hax, h⟩ := h
        have hx : ∀ i, x ≠ .exit i := fun i hi => by subst hi; simp at h
        have h2 : (ares e1 H1 rs).map (fun vs1 => fin tr H.length (tup vs1) H1) = some (v, H') := by
          cases x with
          | exit i => exact absurd rfl (hx i)
          | normal => exact h
          | ret => exact h
        simp only [Option.map_eq_some_iff] at h2
        obtain ⟨rvs, hrvs, hfin⟩ := h2
        have hvl : vs'.length = vs.length := hv.1.symm
        refine calls_of_wp hfn hc (wp_mono (ax_sound hm ih hb hax (B := B) (w := w) (a := { tmps := ⟨vs'⟩ ++ Array.replicate (fn.ntmps - vs'.length) undef, defers := [] }) (by simp; omega) ?_ hr) ?_)
        · intro t u hu
          obtain ⟨_, hu⟩ := lk_argsE hu
          rw [Nat.sub_zero] at hu
          obtain ⟨u', hu', r⟩ := hv.get hu
          refine ⟨u', ?_, r⟩
          have : t < vs'.length := (List.getElem?_eq_some_iff.1 hu').1
          simp [Array.getElem?_append, this]
          exact (List.getElem?_eq_some_iff.1 hu').2
        · rintro ex a1 w1 ⟨hxe, B1, t1, r1, s1, d1, z1⟩
          obtain ⟨v', hrun, rv⟩ := results_run (P := P) (fn := fn) r1 t1 hrs hrvs
          have goal : ∃ v'', Ending.returned v' = Ending.returned v'' ∧ ∃ B', VR σ B' v v'' ∧ HR σ base B' H' w1 ∧ Stp B H w B' H' w1 := by
            refine ⟨v', rfl, ?_⟩
            unfold fin at hfin
            split at hfin
            · rename_i hcond
              simp only [Bool.and_eq_true] at hcond
              obtain ⟨⟨_, hids⟩, hall⟩ := hcond
              simp only [Prod.mk.injEq] at hfin
              obtain ⟨rfl, rfl⟩ := hfin
              refine ⟨AI.cut H.length B1, rv.cut H.length 9 hids, r1.cut hall, ⟨fun i p hp => ?_, s1.os, s1.tape, s1.output, s1.size, s1.keep, fun g hg => s1.own g ?_⟩⟩
              · have := hr.dom i p hp
                simp only [AI.cut, if_pos this]
                exact s1.ext i p hp
              · obtain ⟨i, b, p, hi, hb2, hp, hg⟩ := hg
                obtain ⟨hlt, hi'⟩ := hget_take hi
                simp only [AI.cut, if_pos hlt] at hp
                exact ⟨i, b, p, hi', hb2, hp, hg⟩
            · simp only [Prod.mk.injEq] at hfin
              obtain ⟨rfl, rfl⟩ := hfin
              exact ⟨B1, rv, r1, s1⟩
          obtain ⟨v'', e1', B', g1, g2, g3⟩ := goal
          have hp : a1.defers = [] ∧ ∃ v, (results fn a1.tmps).run P w1 = .ok v w1 ∧ ∃ v' B', Ending.returned v = .returned v' ∧ VR σ B' _ v' ∧ HR σ base B' H' w1 ∧ Stp B H w B' H' w1 := ⟨d1, v', hrun, v'', B', e1', g1, g2, g3⟩
          cases ex <;> cases x <;> simp only [Exm] at hxe <;> first | exact hp | exact absurd rfl (hx _)
      · simp at h
end
end Go.Proofs.Ytlbhbjaimcinbaa.AI
