/- What is proved on the way to BeaconEach, part 2: an interpreter of the code, its soundness, and what the functions answer. -/
import Derived.Calls
import Derived.Orders
import Derived.RowKit3
import Derived.KernelRfl
import Derived.WalkKit
import Derived.Laws.IdiomStrings
import Derived.Laws.StructEq
import Derived.LoopN
import Derived.Test.YtejcabdejoameaaBe1
/- Statements and functions: what the interpreter says, the machine does. -/
namespace Go.Proofs.Ytejcabdejoameaa.AI
open Go

def Exm : AExit → Exit → Prop
  | .normal, .normal => True
  | .ret, .ret => True
  | .exit i, .exit j => i = j
  | _, _ => False

section
variable {P : Program} {τ σ : Nat → Nat} {base : Nat}
variable {call : Nat → List Value → Heap → Option (Value × Heap)}

def Post (σ : Nat → Nat) (base : Nat) (B : Map) (H : Heap) (w : World) (a : Act) (x : AExit) (e' : Env) (H' : Heap) : Exit → Act → World → Prop :=
  fun ex a' w' => Exm x ex ∧ ∃ B', TR σ B' e' a' ∧ HR σ base B' H' w' ∧ Stp B H w B' H' w' ∧ a'.defers = a.defers ∧ a'.tmps.size = a.tmps.size

theorem lk_keep {e : Env} : ∀ {l : List Nat} {t : Nat} {v : Value}, lk (keep e l) t = some v → lk e t = some v := by
  intro l
  induction l with
  | nil => intro t v h; simp [keep, lk] at h
  | cons u l ih =>
    intro t v h
    simp only [keep] at h
    split at h
    · rename_i w hw
      simp only [lk] at h
      split at h
      · rename_i hu; subst hu; rw [hw]; exact h
      · exact ih h
    · exact ih h

theorem TR.keep {B : Map} {e : Env} {a : Act} (h : TR σ B e a) (l : List Nat) : TR σ B (AI.keep e l) a := fun t v hv => h t v (lk_keep hv)

theorem Stp.of_draw {B B' : Map} {H H' : Heap} {w w' : World} {n : Nat} (h : Stp B H { w with drawn := n } B' H' w') : Stp B H w B' H' w' := ⟨h.ext, h.os, h.tape, h.output, h.size, h.keep, h.own⟩

theorem ax_sound (hm : P.follows .mixedOrders = true) (hcall : CallOK P σ base call) {live : Nat → List Nat} {ordr : Nat → List (Nat × Nat)} {nt n : Nat} : ∀ {c : Code} {ac : ACode}, comp P τ σ live ordr nt c = some ac →
    ∀ {e e' : Env} {H H' : Heap} {x : AExit}, ax call n ac e H = some (x, e', H') → ∀ {B : Map} {w : World} {a : Act}, nt ≤ a.tmps.size → TR σ B e a → HR σ base B H w → c.wp P (Post σ base B H w a x e' H') a w := by
  intro c
  induction c with
  | skip =>
    intro ac hc e e' H H' x h B w a _ ht hr
    simp only [comp, Option.some.injEq] at hc; subst hc
    simp only [ax, Option.some.injEq, Prod.mk.injEq] at h
    obtain ⟨rfl, rfl, rfl⟩ := h
    exact wp_skip ⟨trivial, B, ht, hr, .refl _ _ _, rfl, rfl⟩
  | ret =>
    intro ac hc e e' H H' x h B w a _ ht hr
    simp only [comp, Option.some.injEq] at hc; subst hc
    simp only [ax, Option.some.injEq, Prod.mk.injEq] at h
    obtain ⟨rfl, rfl, rfl⟩ := h
    exact wp_ret ⟨trivial, B, ht, hr, .refl _ _ _, rfl, rfl⟩
  | exit id =>
    intro ac hc e e' H H' x h B w a _ ht hr
    simp only [comp, Option.some.injEq] at hc; subst hc
    simp only [ax, Option.some.injEq, Prod.mk.injEq] at h
    obtain ⟨rfl, rfl, rfl⟩ := h
    exact wp_exit ⟨rfl, B, ht, hr, .refl _ _ _, rfl, rfl⟩
  | seq p q ihp ihq =>
    intro ac hc e e' H H' x h B w a hn ht hr
    simp only [comp, Option.bind_eq_some_iff] at hc
    obtain ⟨p', hp, q', hq, hc⟩ := hc
    injection hc with hc; subst hc
    simp only [ax, Option.bind_eq_some_iff] at h
    obtain ⟨⟨x1, e1, H1⟩, h1, h⟩ := h
    refine wp_seq (wp_mono (ihp hp h1 hn ht hr) ?_)
    rintro ex a1 w1 ⟨hx, B1, t1, r1, s1, d1, z1⟩
    cases x1 with
    | normal =>
      cases ex <;> simp only [Exm] at hx
      refine wp_mono (ihq hq h (by rw [z1]; exact hn) t1 r1) ?_
      rintro ex a2 w2 ⟨hx, B2, t2, r2, s2, d2, z2⟩
      exact ⟨hx, B2, t2, r2, s1.trans s2, d2.trans d1, z2.trans z1⟩
    | ret =>
      simp only [Option.some.injEq, Prod.mk.injEq] at h
      obtain ⟨rfl, rfl, rfl⟩ := h
      cases ex <;> simp only [Exm] at hx
      exact ⟨trivial, B1, t1, r1, s1, d1, z1⟩
    | exit id =>
      simp only [Option.some.injEq, Prod.mk.injEq] at h
      obtain ⟨rfl, rfl, rfl⟩ := h
      cases ex <;> simp only [Exm] at hx
      exact ⟨hx, B1, t1, r1, s1, d1, z1⟩
  | cond k p q ihp ihq =>
    intro ac hc e e' H H' x h B w a hn ht hr
    simp only [comp, Option.bind_eq_some_iff] at hc
    obtain ⟨k', hk, p', hp, q', hq, hc⟩ := hc
    injection hc with hc; subst hc
    simp only [ax] at h
    split at h
    · rename_i hv
      exact wp_cond_true (ev_sound ht hk hv).of_bool (ihp hp h hn ht hr)
    · rename_i hv
      exact wp_cond_false (ev_sound ht hk hv).of_bool (ihq hq h hn ht hr)
    · simp at h
  | block id p ihp =>
    intro ac hc e e' H H' x h B w a hn ht hr
    simp only [comp, Option.map_eq_some_iff] at hc
    obtain ⟨p', hp, rfl⟩ := hc
    simp only [ax, Option.map_eq_some_iff] at h
    obtain ⟨⟨x1, e1, H1⟩, h1, he⟩ := h
    simp only [Prod.mk.injEq] at he
    obtain ⟨hx1, rfl, rfl⟩ := he
    refine wp_block (wp_mono (ihp hp h1 hn ht hr) ?_)
    rintro ex a1 w1 ⟨hx, B1, t1, r1, s1, d1, z1⟩
    cases x1 with
    | normal =>
      rw [if_neg (by simp)] at hx1; subst hx1
      cases ex <;> simp only [Exm] at hx
      exact ⟨trivial, B1, t1, r1, s1, d1, z1⟩
    | ret =>
      rw [if_neg (by simp)] at hx1; subst hx1
      cases ex <;> simp only [Exm] at hx
      exact ⟨trivial, B1, t1, r1, s1, d1, z1⟩
    | exit j =>
      cases ex <;> simp only [Exm] at hx
      subst hx
      simp only [Exit.inBlock]
      by_cases hj : j = id
      · subst hj
        rw [if_pos rfl] at hx1; subst hx1
        rw [if_pos rfl]
        exact ⟨trivial, B1, t1, r1, s1, d1, z1⟩
      · rw [if_neg (by simpa using hj)] at hx1; subst hx1
        rw [if_neg hj]
        exact ⟨rfl, B1, t1, r1, s1, d1, z1⟩
  | loop p ihp =>
    intro ac hc e e' H H' x h B w a hn ht hr
    simp only [comp, Option.map_eq_some_iff] at hc
    obtain ⟨p', hp, rfl⟩ := hc
    simp only [ax] at h
    have key : ∀ (m : Nat) {e : Env} {H : Heap}, iter (ax call n p') m e H = some (x, e', H') → ∀ {B1 : Map} {w1 : World} {a1 : Act}, nt ≤ a1.tmps.size → TR σ B1 e a1 → HR σ base B1 H w1 → 
        ∀ {Q : Exit → Act → World → Prop}, (∀ ex a' w', Post σ base B1 H w1 a1 x e' H' ex a' w' → x ≠ .normal → Q ex a' w') → Code.rounds P p Q m a1 w1 := by
      intro m
      induction m with
      | zero => intro e H h; simp [iter] at h
      | succ m ih =>
        intro e H h B1 w1 a1 hn ht hr Q hQ
        simp only [iter, Option.bind_eq_some_iff] at h
        obtain ⟨⟨x1, e1, H1⟩, h1, h⟩ := h
        rw [rounds_succ]
        refine wp_mono (ihp hp h1 hn ht hr) ?_
        rintro ex a2 w2 ⟨hx, B2, t2, r2, s2, d2, z2⟩
        cases x1 with
        | normal =>
          cases ex <;> simp only [Exm] at hx
          refine ih h (by rw [z2]; exact hn) t2 r2 fun ex a3 w3 hp3 hne => ?_
          obtain ⟨hx3, B3, t3, r3, s3, d3, z3⟩ := hp3
          exact hQ ex a3 w3 ⟨hx3, B3, t3, r3, s2.trans s3, d3.trans d2, z3.trans z2⟩ hne
        | ret =>
          simp only [Option.some.injEq, Prod.mk.injEq] at h
          obtain ⟨rfl, rfl, rfl⟩ := h
          cases ex <;> simp only [Exm] at hx
          exact hQ _ _ _ ⟨trivial, B2, t2, r2, s2, d2, z2⟩ (by simp)
        | exit j =>
          simp only [Option.some.injEq, Prod.mk.injEq] at h
          obtain ⟨rfl, rfl, rfl⟩ := h
          cases ex <;> simp only [Exm] at hx
          exact hQ _ _ _ ⟨hx, B2, t2, r2, s2, d2, z2⟩ (by simp)
    exact wp_loop_rounds n (key n h hn ht hr fun ex a' w' hp _ => hp)
  | region id ops draw =>
    intro ac hc e e' H H' x h B w a hn ht hr
    simp only [comp, Option.bind_eq_some_iff] at hc
    obtain ⟨os, hos, hc⟩ := hc
    split at hc
    · rename_i hd
      have hdst : ∀ o ∈ ops.toList, ∀ t, o.dst = some t → t < a.tmps.size := by
        intro o ho t hto
        have := List.all_eq_true.1 hd o ho
        rw [hto] at this
        exact Nat.lt_of_lt_of_le (of_decide_eq_true this) hn
      cases draw with
      | false =>
        simp only [Bool.false_eq_true, if_false, Option.some.injEq] at hc; subst hc
        simp only [ax, Option.map_eq_some_iff] at h
        obtain ⟨⟨e1, H1⟩, h1, he⟩ := h
        simp only [Prod.mk.injEq] at he
        obtain ⟨rfl, rfl, rfl⟩ := he
        exact wp_region_list (aops_wp hcall hos hdst h1 hr ht fun a' w' B' t1 r1 s1 d1 z1 => ⟨trivial, B', t1.keep _, r1, s1, d1, z1⟩)
      | true =>
        simp only [if_true] at hc
        split at hc
        · rename_i hk
          injection hc with hc; subst hc
          simp only [ax, Option.map_eq_some_iff] at h
          obtain ⟨⟨e1, H1⟩, h1, he⟩ := h
          simp only [Prod.mk.injEq] at he
          obtain ⟨rfl, rfl, rfl⟩ := he
          exact any_wp hm hcall hos hk hd hn ht (hr.same rfl) h1 fun a' w' B' t1 r1 s1 d1 z1 => ⟨trivial, B', t1.keep _, r1, s1.of_draw, d1, z1⟩
        · simp at hc
    · simp at hc
  | _ => intro ac hc; simp [comp] at hc

theorem lk_argsE : ∀ {vs : List Value} {k t : Nat} {v : Value}, lk (argsE k vs) t = some v → k ≤ t ∧ vs[t - k]? = some v := by
  intro vs
  induction vs with
  | nil => intro k t v h; simp [argsE, lk] at h
  | cons x vs ih =>
    intro k t v h
    simp only [argsE, lk] at h
    split at h
    · rename_i hk; subst hk; injection h with h; subst h; simp
    · obtain ⟨h1, h2⟩ := ih h
      refine ⟨by omega, ?_⟩
      rw [show t - k = (t - (k + 1)) + 1 by omega, zaa]
      exact h2

def resOne (tmps : Array Value) : ResultVar → Sem Value
  | .tmp t => pure (tmps.getD t undef)
  | .cell x t => do loadVar t (← asAddr (tmps.getD x undef))

theorem ares_run {B : Map} {H : Heap} {w : World} {e : Env} {a : Act} (hr : HR σ base B H w) (ht : TR σ B e a) : ∀ {rs : List ResultVar} {ars : List ARes} {vs : List Value}, cRes P rs = some ars → ares e H ars = some vs →
    ∃ vs', (rs.mapM (resOne a.tmps)).run P w = .ok vs' w ∧ VRs σ B vs vs' := by
  intro rs
  induction rs with
  | nil =>
    intro ars vs hc h
    simp only [cRes, Option.some.injEq] at hc; subst hc
    simp only [ares, Option.some.injEq] at h; subst h
    exact ⟨[], by simp, VRs.nil⟩
  | cons r rs ih =>
    intro ars vs hc h
    cases r with
    | tmp t =>
      simp only [cRes, Option.map_eq_some_iff] at hc
      obtain ⟨ars', hars, rfl⟩ := hc
      simp only [ares, Option.bind_eq_some_iff, Option.map_eq_some_iff] at h
      obtain ⟨v, hv, vs1, hvs1, rfl⟩ := h
      obtain ⟨v', hv', rv⟩ := ht t v hv
      obtain ⟨vs', hrun, rvs⟩ := ih hars hvs1
      refine ⟨v' :: vs', ?_, rvs.cons rv⟩
      have hg : a.tmps.getD t undef = v' := by simp [Array.getD_eq_getD_getElem?, hv']
      have h1 : (resOne a.tmps (.tmp t)).run P w = .ok v' w := by simp only [resOne, hg, Sem.run_pure]
      simp only [List.mapM_cons, Sem.run_bind, h1, Result.andThen_ok, hrun, Sem.run_pure]
    | cell x t =>
      simp only [cRes, Option.bind_eq_some_iff] at hc
      obtain ⟨n, hn, hc⟩ := hc
      split at hc
      · simp at hc
      · simp only [Option.map_eq_some_iff] at hc
        obtain ⟨ars', hars, rfl⟩ := hc
        simp only [ares, Option.bind_eq_some_iff, Option.map_eq_some_iff] at h
        obtain ⟨va, hva, ad, had, v, hv, vs1, hvs1, rfl⟩ := h
        obtain ⟨va', hva', rva⟩ := ht x va hva
        obtain ⟨rfl, hd⟩ := addrOf_eq had
        obtain ⟨p, hp, rfl⟩ := rva.of_ptr
        rw [hd] at hv
        obtain ⟨v', hrl, rv⟩ := loadAt_run (P := P) hr hp hn hv
        obtain ⟨vs', hrun, rvs⟩ := ih hars hvs1
        refine ⟨v' :: vs', ?_, rvs.cons rv⟩
        have hg : a.tmps.getD x undef = .pointer (some ⟨p.blk, p.off + ad.off, none⟩) := by simp [Array.getD_eq_getD_getElem?, hva']
        have h1 : (resOne a.tmps (.cell x t)).run P w = .ok v' w := by simp only [resOne, hg, asAddr, Sem.run_bind, Sem.run_pure, Result.andThen_ok, hrl]
        simp only [List.mapM_cons, Sem.run_bind, h1, Result.andThen_ok, hrun, Sem.run_pure]

theorem results_run {fn : Func} {B : Map} {H : Heap} {w : World} {e : Env} {a : Act} (hr : HR σ base B H w) (ht : TR σ B e a) {ars : List ARes} {vs : List Value} (hc : cRes P fn.results.toList = some ars) (h : ares e H ars = some vs) :
    ∃ v', (results fn a.tmps).run P w = .ok v' w ∧ VR σ B (tup vs) v' := by
  obtain ⟨vs', hrun, rvs⟩ := ares_run (P := P) hr ht hc h
  have hm : (fn.results.mapM (resOne a.tmps)).run P w = .ok ⟨vs'⟩ w := by
    rw [← Array.toList_mapM] at hrun
    simp only [Sem.run_map] at hrun
    cases hq : (fn.results.mapM (resOne a.tmps)).run P w with
    | ok r w1 =>
      rw [hq] at hrun
      simp only [Result.andThen_ok, Result.ok.injEq] at hrun
      obtain ⟨h0, rfl⟩ := hrun
      rw [← h0]
    | halt x w1 => rw [hq] at hrun; simp at hrun
  refine ⟨tup vs', ?_, ?_⟩
  · show (do let vs ← fn.results.mapM (resOne a.tmps); pure (if h : vs.size = 1 then vs[0] else .tuple vs) : Sem Value).run P w = _
    rw [Sem.run_bind, hm, Result.andThen_ok, Sem.run_pure]
    congr 1
    match vs' with
    | [] => rfl
    | [v] => rfl
    | v :: u :: r => rfl
  · match vs, rvs with
    | [], rvs =>
      have : vs' = [] := List.eq_nil_of_length_eq_zero rvs.1.symm
      subst this; exact .tuple' VRs.nil
    | [v], rvs =>
      obtain ⟨v', m, rfl, r1, r2⟩ := rvs.of_cons
      have : m = [] := List.eq_nil_of_length_eq_zero r2.1.symm
      subst this; exact r1
    | v :: u :: r, rvs =>
      obtain ⟨v', m, rfl, r1, r2⟩ := rvs.of_cons
      obtain ⟨u', m', rfl, r3, r4⟩ := r2.of_cons
      exact .tuple' ((r4.cons r3).cons r1)

/-- The table's functions are those of the program. -/
def Linked (P : Program) (σ : Nat → Nat) (tbl : Nat → Option AFn) : Prop :=
  ∀ (i : Nat) (F : AFn), tbl i = some F → ∃ (fn : Func) (τ : Nat → Nat) (live : Nat → List Nat) (ordr : Nat → List (Nat × Nat)), P.funcs[σ i]? = some fn ∧ compF P τ σ live ordr fn F.trunc F.iso = some F

theorem constV_ids : ∀ (d : Nat) (v : Value), constV d v = true → idsB d 0 v = true := by
  intro d
  induction d with
  | zero => intro v h; simp [constV] at h
  | succ d ih =>
    intro v h
    cases v with
    | agg cs => simp only [constV, idsB, List.all_eq_true] at h ⊢; exact fun x hx => ih x (h x hx)
    | tuple cs => simp only [constV, idsB, List.all_eq_true] at h ⊢; exact fun x hx => ih x (h x hx)
    | pointer a => cases a with
      | none => rfl
      | some a => simp [constV, AI.atom] at h
    | slice a n c => cases a with
      | none => exact h
      | some a => simp [constV, AI.atom] at h
    | func f a b => simp [constV, AI.atom] at h
    | _ => exact h

/-- A value that leads to no memory is related alike whatever the map. -/
theorem VR.anyMap {d : Nat} {B B' : Map} {v v' : Value} (h : constV d v = true) (r : VR σ B v v') : VR σ B' v v' := by
  have := r.cut 0 d (constV_ids d v h)
  exact this.mono fun i p hp => by simp [AI.cut] at hp

theorem HR.nothing {w : World} (h : base ≤ w.heap.size) : HR σ base (fun _ => none) [] w :=
  ⟨fun i b hi => by simp [hget] at hi, fun i b hi => by simp [hget] at hi, fun i j b c p q hi => by simp [hget] at hi, fun i p hp => by simp at hp, h⟩

theorem HR.beside {B : Map} {H : Heap} {w w' : World} (h : HR σ base B H w) (hs : w.heap.size ≤ w'.heap.size) (hk : ∀ g, g < w.heap.size → w'.heap[g]? = w.heap[g]?) : HR σ base B H w' := by
  refine ⟨fun i b hi hb => ?_, fun i b hi hb => ?_, h.inj, h.dom, Nat.le_trans h.big hs⟩
  · obtain ⟨g, f, z, cs, ty, fr, h1, h2, h3, h4⟩ := h.rw i b hi hb
    exact ⟨g, f, z, cs, ty, fr, h1, h2, by rw [hk g (Array.getElem?_eq_some_iff.1 h3).1]; exact h3, h4⟩
  · obtain ⟨g, o, h1, h2, h3⟩ := h.ro i b hi hb
    refine ⟨g, o, h1, h2, fun j x hx => ?_⟩
    obtain ⟨x', hx', hr⟩ := h3 j x hx
    refine ⟨x', ?_, hr⟩
    rw [← hx']
    unfold World.cell?
    rw [hk g (Nat.lt_of_lt_of_le h2 h.big)]

theorem Stp.beside {B B1 : Map} {H H1 : Heap} {w w' : World} (s : Stp (fun _ => none) [] w B1 H1 w') : Stp B H w B H w' :=
  ⟨.refl _, s.os, s.tape, s.output, s.size, fun g hg _ => s.keep g hg (by rintro ⟨i, b, p, hi, _⟩; simp [hget] at hi), fun g hg => .inl hg⟩

theorem ac_sound (hm : P.follows .mixedOrders = true) {tbl : Nat → Option AFn} (hl : Linked P σ tbl) : ∀ n, CallOK P σ base (ac tbl n) := by
  intro n
  induction n with
  | zero => intro f vs H v H' h; simp [ac] at h
  | succ n ih =>
    intro f vs H v H' h
    simp only [ac, Option.bind_eq_some_iff] at h
    obtain ⟨F, hF, h⟩ := h
    obtain ⟨fn, τ, live, ordr, hfn, hcomp⟩ := hl f F hF
    simp only [compF] at hcomp
    split at hcomp
    · simp at hcomp
    · rename_i hname
      simp only [Option.bind_eq_some_iff, Option.map_eq_some_iff] at hcomp
      obtain ⟨c, hc, b, hb, rs, hrs, hFe⟩ := hcomp
      obtain ⟨nt0, b0, rs0, tr⟩ := F
      simp only [AFn.mk.injEq, and_true] at hFe
      obtain ⟨rfl, rfl, rfl⟩ := hFe
      refine ⟨⟨fn, hfn, by simpa using hname, by rw [hc]; rfl⟩, fun B w vs' hr hv => ?_⟩
      split at h
      · rename_i hlen
        simp only at hlen
        split at h
        · rename_i hiso
          simp only [Bool.and_eq_true] at hiso
          simp only [Option.bind_eq_some_iff] at h
          obtain ⟨⟨v1, H1⟩, hc1, h⟩ := h
          split at h
          · rename_i hq
            simp only [Bool.and_eq_true] at hq
            simp only [Option.some.injEq, Prod.mk.injEq] at h
            obtain ⟨rfl, rfl⟩ := h
            have hvs : VRs σ (fun _ => none) vs vs' := ⟨hv.1, fun j x x' hx hx' => VR.anyMap (List.all_eq_true.1 hiso.2 x (List.mem_of_getElem? hx)) (hv.2 j x x' hx hx')⟩
            refine ((ih f vs [] v1 H1 hc1).2 _ w vs' (HR.nothing hr.big) hvs).mono fun e w1 he => ?_
            obtain ⟨v', B1, he, r1, r2, r3⟩ := he
            exact ⟨v', B, he, VR.anyMap hq.1 r1, hr.beside r3.size (fun g hg => r3.keep g hg (by rintro ⟨i, b, p, hi, _⟩; simp [hget] at hi)), r3.beside⟩
          · simp at h
        simp only [Option.bind_eq_some_iff] at h
        obtain ⟨⟨x, e1, H1⟩, hax, h⟩ := h
        have hx : ∀ i, x ≠ .exit i := fun i hi => by subst hi; simp at h
        have h2 : (ares e1 H1 rs).map (fun vs1 => fin tr H.length (tup vs1) H1) = some (v, H') := by
          cases x with
          | exit i => exact absurd rfl (hx i)
          | normal => exact h
          | ret => exact h
        simp only [Option.map_eq_some_iff] at h2
        obtain ⟨rvs, hrvs, hfin⟩ := h2
        have hvl : vs'.length = vs.length := hv.1.symm
        refine calls_of_wp hfn hc (wp_mono (ax_sound hm ih hb hax (B := B) (w := w) (a := { tmps := ⟨vs'⟩ ++ Array.replicate (fn.ntmps - vs'.length) undef, defers := [] }) (by simp; omega) ?_ hr) ?_)
        · intro t u hu
          obtain ⟨_, hu⟩ := lk_argsE hu
          rw [Nat.sub_zero] at hu
          obtain ⟨u', hu', r⟩ := hv.get hu
          refine ⟨u', ?_, r⟩
          have : t < vs'.length := (List.getElem?_eq_some_iff.1 hu').1
          simp [Array.getElem?_append, this]
          exact (List.getElem?_eq_some_iff.1 hu').2
        · rintro ex a1 w1 ⟨hxe, B1, t1, r1, s1, d1, z1⟩
          obtain ⟨v', hrun, rv⟩ := results_run (P := P) (fn := fn) r1 t1 hrs hrvs
          have goal : ∃ v'', Ending.returned v' = Ending.returned v'' ∧ ∃ B', VR σ B' v v'' ∧ HR σ base B' H' w1 ∧ Stp B H w B' H' w1 := by
            refine ⟨v', rfl, ?_⟩
            unfold fin at hfin
            split at hfin
            · rename_i hcond
              simp only [Bool.and_eq_true] at hcond
              obtain ⟨⟨_, hids⟩, hall⟩ := hcond
              simp only [Prod.mk.injEq] at hfin
              obtain ⟨rfl, rfl⟩ := hfin
              refine ⟨AI.cut H.length B1, rv.cut H.length 9 hids, r1.cut hall, ⟨fun i p hp => ?_, s1.os, s1.tape, s1.output, s1.size, s1.keep, fun g hg => s1.own g ?_⟩⟩
              · have := hr.dom i p hp
                simp only [AI.cut, if_pos this]
                exact s1.ext i p hp
              · obtain ⟨i, b, p, hi, hb2, hp, hg⟩ := hg
                obtain ⟨hlt, hi'⟩ := hget_take hi
                simp only [AI.cut, if_pos hlt] at hp
                exact ⟨i, b, p, hi', hb2, hp, hg⟩
            · simp only [Prod.mk.injEq] at hfin
              obtain ⟨rfl, rfl⟩ := hfin
              exact ⟨B1, rv, r1, s1⟩
          obtain ⟨v'', e1', B', g1, g2, g3⟩ := goal
          have hp : a1.defers = [] ∧ ∃ v, (results fn a1.tmps).run P w1 = .ok v w1 ∧ ∃ v' B', Ending.returned v = .returned v' ∧ VR σ B' _ v' ∧ HR σ base B' H' w1 ∧ Stp B H w B' H' w1 := ⟨d1, v', hrun, v'', B', e1', g1, g2, g3⟩
          cases ex <;> cases x <;> simp only [Exm] at hxe <;> first | exact hp | exact absurd rfl (hx _)
      · simp at h
end
end Go.Proofs.Ytejcabdejoameaa.AI

/- The interpreter without a bound on rounds, and how a function is reckoned through. -/
namespace Go.Proofs.Ytejcabdejoameaa.AI
open Go

abbrev CallF := Nat → List Value → Heap → Option (Value × Heap)
def Le (c c' : CallF) : Prop := ∀ f vs H r, c f vs H = some r → c' f vs H = some r

section
variable {c c' : CallF}

theorem dval_mono (h : Le c c') {op : AOp} {e : Env} {H : Heap} {r : Value × Heap} (hd : dval c op e H = some r) : dval c' op e H = some r := by
  unfold dval at hd ⊢
  split at hd
  · simp only [Option.bind_eq_some_iff] at hd ⊢
    obtain ⟨vs, hvs, hd⟩ := hd
    exact ⟨vs, hvs, h _ _ _ _ hd⟩
  · split at hd
    · simp only [Option.bind_eq_some_iff] at hd ⊢
      obtain ⟨vs, hvs, hd⟩ := hd
      exact ⟨vs, hvs, h _ _ _ _ hd⟩
    · simp at hd
  · exact hd

theorem step_mono (h : Le c c') {o : AOper} {e : Env} {H : Heap} {r : Env × Heap} (hd : step c o e H = some r) : step c' o e H = some r := by
  unfold step at hd ⊢
  split at hd
  · simp only [does, Option.map_eq_some_iff] at hd ⊢
    obtain ⟨x, hx, he⟩ := hd
    exact ⟨x, dval_mono h hx, he⟩
  · exact hd
  · simp at hd

theorem aops_mono (h : Le c c') : ∀ {ops : List AOper} {e : Env} {H : Heap} {r : Env × Heap}, aops c ops e H = some r → aops c' ops e H = some r := by
  intro ops
  induction ops with
  | nil => intro e H r hd; exact hd
  | cons o ops ih =>
    intro e H r hd
    simp only [aops, Option.bind_eq_some_iff] at hd ⊢
    obtain ⟨x, hx, hd⟩ := hd
    exact ⟨x, step_mono h hx, ih hd⟩

theorem aopsD_mono (h : Le c c') : ∀ {ops : List DOper} {hist : List Heap} {e : Env} {H : Heap} {r : Env × Heap}, aopsD c ops hist e H = some r → aopsD c' ops hist e H = some r := by
  intro ops
  induction ops with
  | nil => intro hist e H r hd; exact hd
  | cons o ops ih =>
    intro hist e H r hd
    simp only [aopsD, Option.bind_eq_some_iff] at hd ⊢
    obtain ⟨x, hx, hd⟩ := hd
    refine ⟨x, step_mono h hx, ?_⟩
    split at hd
    · rename_i hb; rw [if_pos hb]; exact ih hd
    · simp at hd

theorem iter_mono {f g : Env → Heap → Out} (h : ∀ e H r, f e H = some r → g e H = some r) : ∀ {n m : Nat}, n ≤ m → ∀ {e : Env} {H : Heap} {r}, iter f n e H = some r → iter g m e H = some r := by
  intro n
  induction n with
  | zero => intro m _ e H r hd; simp [iter] at hd
  | succ n ih =>
    intro m hm e H r hd
    obtain ⟨m, rfl⟩ : ∃ k, m = k + 1 := ⟨m - 1, by omega⟩
    simp only [iter, Option.bind_eq_some_iff] at hd ⊢
    obtain ⟨⟨x, e1, H1⟩, hx, hd⟩ := hd
    refine ⟨(x, e1, H1), h _ _ _ hx, ?_⟩
    cases x with
    | normal => exact ih (by omega) hd
    | ret => exact hd
    | exit i => exact hd

theorem ax_mono (h : Le c c') {n m : Nat} (hnm : n ≤ m) : ∀ {k : ACode} {e : Env} {H : Heap} {r}, ax c n k e H = some r → ax c' m k e H = some r := by
  intro k
  induction k with
  | skip => intro e H r hd; exact hd
  | ret => intro e H r hd; exact hd
  | exit id => intro e H r hd; exact hd
  | seq a b iha ihb =>
    intro e H r hd
    simp only [ax, Option.bind_eq_some_iff] at hd ⊢
    obtain ⟨⟨x, e1, H1⟩, hx, hd⟩ := hd
    refine ⟨(x, e1, H1), iha hx, ?_⟩
    cases x with
    | normal => exact ihb hd
    | ret => exact hd
    | exit i => exact hd
  | cond q a b iha ihb =>
    intro e H r hd
    simp only [ax] at hd ⊢
    split at hd
    · exact iha hd
    · exact ihb hd
    · simp at hd
  | block id a iha =>
    intro e H r hd
    simp only [ax, Option.map_eq_some_iff] at hd ⊢
    obtain ⟨x, hx, hd⟩ := hd
    exact ⟨x, iha hx, hd⟩
  | loop a iha =>
    intro e H r hd
    simp only [ax] at hd ⊢
    exact iter_mono (fun e H r h => iha h) hnm hd
  | reg ops live =>
    intro e H r hd
    simp only [ax, Option.map_eq_some_iff] at hd ⊢
    obtain ⟨x, hx, hd⟩ := hd
    exact ⟨x, aops_mono h hx, hd⟩
  | regd ops live =>
    intro e H r hd
    simp only [ax, Option.map_eq_some_iff] at hd ⊢
    obtain ⟨x, hx, hd⟩ := hd
    exact ⟨x, aopsD_mono h hx, hd⟩
end

section
variable (tbl : Nat → Option AFn)

theorem ac_mono : ∀ {n m : Nat}, n ≤ m → Le (ac tbl n) (ac tbl m) := by
  intro n
  induction n with
  | zero => intro m _ f vs H r h; simp [ac] at h
  | succ n ih =>
    intro m hm f vs H r h
    obtain ⟨m, rfl⟩ : ∃ k, m = k + 1 := ⟨m - 1, by omega⟩
    simp only [ac, Option.bind_eq_some_iff] at h ⊢
    obtain ⟨F, hF, h⟩ := h
    refine ⟨F, hF, ?_⟩
    split at h
    · rename_i hl
      rw [if_pos hl]
      split at h
      · rename_i hiso
        rw [if_pos hiso]
        simp only [Option.bind_eq_some_iff] at h ⊢
        obtain ⟨x, hx, h⟩ := h
        exact ⟨x, ih (by omega) _ _ _ _ hx, h⟩
      · rename_i hiso
        rw [if_neg hiso]
        simp only [Option.bind_eq_some_iff] at h ⊢
        obtain ⟨x, hx, h⟩ := h
        exact ⟨x, ax_mono (ih (by omega)) (by omega) hx, h⟩
    · simp at h

/-- What a call comes to. -/
noncomputable def AC : CallF := fun f vs H => by
  classical exact if h : ∃ r, ∃ n, ac tbl n f vs H = some r then some h.choose else none

theorem AC_iff {f : Nat} {vs : List Value} {H : Heap} {r : Value × Heap} : AC tbl f vs H = some r ↔ ∃ n, ac tbl n f vs H = some r := by
  unfold AC
  constructor
  · intro h
    split at h
    · rename_i hx
      injection h with h
      rw [← h]; exact hx.choose_spec
    · simp at h
  · rintro ⟨n, hn⟩
    have hx : ∃ r, ∃ n, ac tbl n f vs H = some r := ⟨r, n, hn⟩
    rw [dif_pos hx]
    obtain ⟨m, hm⟩ := hx.choose_spec
    have h1 := ac_mono tbl (Nat.le_max_left n m) _ _ _ _ hn
    have h2 := ac_mono tbl (Nat.le_max_right n m) _ _ _ _ hm
    rw [h1] at h2
    injection h2 with h2
    rw [← h2]

theorem ac_AC (n : Nat) : Le (ac tbl n) (AC tbl) := fun _ _ _ _ h => (AC_iff tbl).2 ⟨n, h⟩

theorem AC_sound {P : Program} {σ : Nat → Nat} {base : Nat} (hm : P.follows .mixedOrders = true) (hl : Linked P σ tbl) : CallOK P σ base (AC tbl) := by
  intro f vs H v H' h
  obtain ⟨n, hn⟩ := (AC_iff tbl).1 h
  exact ac_sound hm hl n f vs H v H' hn

variable {tbl}
theorem dval_fin {op : AOp} {e : Env} {H : Heap} {r : Value × Heap} (h : dval (AC tbl) op e H = some r) : ∃ n, dval (ac tbl n) op e H = some r := by
  unfold dval at h ⊢
  split at h
  · simp only [Option.bind_eq_some_iff] at h ⊢
    obtain ⟨vs, hvs, h⟩ := h
    obtain ⟨n, hn⟩ := (AC_iff tbl).1 h
    exact ⟨n, vs, hvs, hn⟩
  · split at h
    · simp only [Option.bind_eq_some_iff] at h ⊢
      obtain ⟨vs, hvs, h⟩ := h
      obtain ⟨n, hn⟩ := (AC_iff tbl).1 h
      exact ⟨n, vs, hvs, hn⟩
    · simp at h
  · exact ⟨0, h⟩

theorem step_fin {o : AOper} {e : Env} {H : Heap} {r : Env × Heap} (h : step (AC tbl) o e H = some r) : ∃ n, step (ac tbl n) o e H = some r := by
  unfold step at h ⊢
  split at h
  · simp only [does, Option.map_eq_some_iff] at h
    obtain ⟨x, hx, he⟩ := h
    obtain ⟨n, hn⟩ := dval_fin hx
    exact ⟨n, by simp only [does, Option.map_eq_some_iff]; exact ⟨x, hn, he⟩⟩
  · exact ⟨0, h⟩
  · simp at h

theorem aops_fin : ∀ {ops : List AOper} {e : Env} {H : Heap} {r : Env × Heap}, aops (AC tbl) ops e H = some r → ∃ n, aops (ac tbl n) ops e H = some r := by
  intro ops
  induction ops with
  | nil => intro e H r h; exact ⟨0, h⟩
  | cons o ops ih =>
    intro e H r h
    simp only [aops, Option.bind_eq_some_iff] at h
    obtain ⟨x, hx, h⟩ := h
    obtain ⟨n, hn⟩ := step_fin hx
    obtain ⟨m, hm⟩ := ih h
    refine ⟨max n m, ?_⟩
    simp only [aops, Option.bind_eq_some_iff]
    exact ⟨x, step_mono (ac_mono tbl (Nat.le_max_left n m)) hn, aops_mono (ac_mono tbl (Nat.le_max_right n m)) hm⟩

theorem aopsD_fin : ∀ {ops : List DOper} {hist : List Heap} {e : Env} {H : Heap} {r : Env × Heap}, aopsD (AC tbl) ops hist e H = some r → ∃ n, aopsD (ac tbl n) ops hist e H = some r := by
  intro ops
  induction ops with
  | nil => intro hist e H r h; exact ⟨0, h⟩
  | cons o ops ih =>
    intro hist e H r h
    simp only [aopsD, Option.bind_eq_some_iff] at h
    obtain ⟨x, hx, h⟩ := h
    split at h
    · rename_i hb
      obtain ⟨n, hn⟩ := step_fin hx
      obtain ⟨m, hm⟩ := ih h
      refine ⟨max n m, ?_⟩
      simp only [aopsD, Option.bind_eq_some_iff]
      exact ⟨x, step_mono (ac_mono tbl (Nat.le_max_left n m)) hn, by rw [if_pos hb]; exact aopsD_mono (ac_mono tbl (Nat.le_max_right n m)) hm⟩
    · simp at h

theorem ax_fin {k : Nat} : ∀ {c : ACode} {e : Env} {H : Heap} {r}, ax (AC tbl) k c e H = some r → ∃ n, ax (ac tbl n) k c e H = some r := by
  intro c
  induction c with
  | skip => intro e H r h; exact ⟨0, h⟩
  | ret => intro e H r h; exact ⟨0, h⟩
  | exit id => intro e H r h; exact ⟨0, h⟩
  | seq a b iha ihb =>
    intro e H r h
    simp only [ax, Option.bind_eq_some_iff] at h
    obtain ⟨⟨x, e1, H1⟩, hx, h⟩ := h
    obtain ⟨n, hn⟩ := iha hx
    cases x with
    | normal =>
      obtain ⟨m, hm⟩ := ihb h
      refine ⟨max n m, ?_⟩
      simp only [ax, Option.bind_eq_some_iff]
      exact ⟨_, ax_mono (ac_mono tbl (Nat.le_max_left n m)) (Nat.le_refl _) hn, ax_mono (ac_mono tbl (Nat.le_max_right n m)) (Nat.le_refl _) hm⟩
    | ret => exact ⟨n, by simp only [ax, Option.bind_eq_some_iff]; exact ⟨_, hn, h⟩⟩
    | exit i => exact ⟨n, by simp only [ax, Option.bind_eq_some_iff]; exact ⟨_, hn, h⟩⟩
  | cond q a b iha ihb =>
    intro e H r h
    simp only [ax] at h ⊢
    split at h
    · exact iha h
    · exact ihb h
    · simp at h
  | block id a iha =>
    intro e H r h
    simp only [ax, Option.map_eq_some_iff] at h ⊢
    obtain ⟨x, hx, h⟩ := h
    obtain ⟨n, hn⟩ := iha hx
    exact ⟨n, x, hn, h⟩
  | loop a iha =>
    intro e H r h
    simp only [ax] at h ⊢
    have key : ∀ (k' : Nat) {e : Env} {H : Heap} {r}, iter (ax (AC tbl) k a) k' e H = some r → ∃ n, iter (ax (ac tbl n) k a) k' e H = some r := by
      intro k'
      induction k' with
      | zero => intro e H r h; simp [iter] at h
      | succ k' ih =>
        intro e H r h
        simp only [iter, Option.bind_eq_some_iff] at h
        obtain ⟨⟨x, e1, H1⟩, hx, h⟩ := h
        obtain ⟨n, hn⟩ := iha hx
        cases x with
        | normal =>
          obtain ⟨m, hm⟩ := ih h
          refine ⟨max n m, ?_⟩
          simp only [iter, Option.bind_eq_some_iff]
          exact ⟨_, ax_mono (ac_mono tbl (Nat.le_max_left n m)) (Nat.le_refl _) hn, iter_mono (fun e H r h => ax_mono (ac_mono tbl (Nat.le_max_right n m)) (Nat.le_refl _) h) (Nat.le_refl _) hm⟩
        | ret => exact ⟨n, by simp only [iter, Option.bind_eq_some_iff]; exact ⟨_, hn, h⟩⟩
        | exit i => exact ⟨n, by simp only [iter, Option.bind_eq_some_iff]; exact ⟨_, hn, h⟩⟩
    exact key k h
  | reg ops live =>
    intro e H r h
    simp only [ax, Option.map_eq_some_iff] at h ⊢
    obtain ⟨x, hx, h⟩ := h
    obtain ⟨n, hn⟩ := aops_fin hx
    exact ⟨n, x, hn, h⟩
  | regd ops live =>
    intro e H r h
    simp only [ax, Option.map_eq_some_iff] at h ⊢
    obtain ⟨x, hx, h⟩ := h
    obtain ⟨n, hn⟩ := aopsD_fin hx
    exact ⟨n, x, hn, h⟩

/-! ## Reckoning through a text: what holds at its end -/
variable (tbl)
def AW (c : ACode) (e : Env) (H : Heap) (Q : AExit → Env → Heap → Prop) : Prop := ∃ n x e' H', ax (AC tbl) n c e H = some (x, e', H') ∧ Q x e' H'
def AO (ops : List AOper) (e : Env) (H : Heap) (Q : Env → Heap → Prop) : Prop := ∃ e' H', aops (AC tbl) ops e H = some (e', H') ∧ Q e' H'
def AOD (ops : List DOper) (hist : List Heap) (e : Env) (H : Heap) (Q : Env → Heap → Prop) : Prop := ∃ e' H', aopsD (AC tbl) ops hist e H = some (e', H') ∧ Q e' H'
variable {tbl}
variable {e : Env} {H : Heap} {Q : AExit → Env → Heap → Prop}

theorem Le.refl (c : CallF) : Le c c := fun _ _ _ _ h => h

theorem AW.mono {c : ACode} {Q' : AExit → Env → Heap → Prop} (h : AW tbl c e H Q) (hq : ∀ x e H, Q x e H → Q' x e H) : AW tbl c e H Q' := by
  obtain ⟨n, x, e', H', h1, h2⟩ := h
  exact ⟨n, x, e', H', h1, hq _ _ _ h2⟩

theorem yac : AW tbl .skip e H Q = Q .normal e H := by
  apply propext; constructor
  · rintro ⟨n, x, e', H', h, hq⟩
    simp only [ax, Option.some.injEq, Prod.mk.injEq] at h
    obtain ⟨rfl, rfl, rfl⟩ := h; exact hq
  · intro h; exact ⟨0, _, _, _, rfl, h⟩
theorem yab : AW tbl .ret e H Q = Q .ret e H := by
  apply propext; constructor
  · rintro ⟨n, x, e', H', h, hq⟩
    simp only [ax, Option.some.injEq, Prod.mk.injEq] at h
    obtain ⟨rfl, rfl, rfl⟩ := h; exact hq
  · intro h; exact ⟨0, _, _, _, rfl, h⟩
theorem yad {id : Nat} : AW tbl (.exit id) e H Q = Q (.exit id) e H := by
  apply propext; constructor
  · rintro ⟨n, x, e', H', h, hq⟩
    simp only [ax, Option.some.injEq, Prod.mk.injEq] at h
    obtain ⟨rfl, rfl, rfl⟩ := h; exact hq
  · intro h; exact ⟨0, _, _, _, rfl, h⟩

/-- What follows a part that has ended. -/
def Then (K : Env → Heap → Prop) (Q : AExit → Env → Heap → Prop) : AExit → Env → Heap → Prop
  | .normal, e, H => K e H
  | x, e, H => Q x e H
theorem ybn {K : Env → Heap → Prop} : Then K Q .normal e H = K e H := rfl
theorem ybo {K : Env → Heap → Prop} : Then K Q .ret e H = Q .ret e H := rfl
theorem ybp {K : Env → Heap → Prop} {id : Nat} : Then K Q (.exit id) e H = Q (.exit id) e H := rfl

theorem AW_seq {a b : ACode} : AW tbl (.seq a b) e H Q = AW tbl a e H (Then (fun e H => AW tbl b e H Q) Q) := by
  apply propext; constructor
  · rintro ⟨n, x, e', H', h, hq⟩
    simp only [ax, Option.bind_eq_some_iff] at h
    obtain ⟨⟨x1, e1, H1⟩, h1, h⟩ := h
    refine ⟨n, x1, e1, H1, h1, ?_⟩
    cases x1 with
    | normal => exact ⟨n, x, e', H', h, hq⟩
    | ret => simp only [Option.some.injEq, Prod.mk.injEq] at h; obtain ⟨rfl, rfl, rfl⟩ := h; exact hq
    | exit i => simp only [Option.some.injEq, Prod.mk.injEq] at h; obtain ⟨rfl, rfl, rfl⟩ := h; exact hq
  · rintro ⟨n, x1, e1, H1, h1, hq⟩
    cases x1 with
    | normal =>
      obtain ⟨m, x, e', H', h, hq⟩ := hq
      refine ⟨max n m, x, e', H', ?_, hq⟩
      simp only [ax, Option.bind_eq_some_iff]
      exact ⟨_, ax_mono (Le.refl _) (Nat.le_max_left n m) h1, ax_mono (Le.refl _) (Nat.le_max_right n m) h⟩
    | ret => exact ⟨n, _, _, _, by simp only [ax, Option.bind_eq_some_iff]; exact ⟨_, h1, rfl⟩, hq⟩
    | exit i => exact ⟨n, _, _, _, by simp only [ax, Option.bind_eq_some_iff]; exact ⟨_, h1, rfl⟩, hq⟩

theorem AW_cond {c : Arg} {a b : ACode} : AW tbl (.cond c a b) e H Q = ((ev e c = some (.bool true) ∧ AW tbl a e H Q) ∨ (ev e c = some (.bool false) ∧ AW tbl b e H Q)) := by
  apply propext; constructor
  · rintro ⟨n, x, e', H', h, hq⟩
    simp only [ax] at h
    split at h
    · exact .inl ⟨‹_›, n, x, e', H', h, hq⟩
    · exact .inr ⟨‹_›, n, x, e', H', h, hq⟩
    · simp at h
  · rintro (⟨hc, n, x, e', H', h, hq⟩ | ⟨hc, n, x, e', H', h, hq⟩)
    · exact ⟨n, x, e', H', by simp only [ax, hc]; exact h, hq⟩
    · exact ⟨n, x, e', H', by simp only [ax, hc]; exact h, hq⟩

def InBlock (id : Nat) (Q : AExit → Env → Heap → Prop) : AExit → Env → Heap → Prop := fun x e H => Q (if x = .exit id then .normal else x) e H
theorem ybq {id : Nat} : InBlock id Q .normal e H = Q .normal e H := by simp [InBlock]
theorem ybr {id : Nat} : InBlock id Q .ret e H = Q .ret e H := by simp [InBlock]
theorem ybs {id : Nat} : InBlock id Q (.exit id) e H = Q .normal e H := by simp [InBlock]
theorem ybt {id j : Nat} : InBlock id Q (.exit j) e H = if j = id then Q .normal e H else Q (.exit j) e H := by
  by_cases h : j = id <;> simp [InBlock, h]
theorem yae {id : Nat} {a : ACode} : AW tbl (.block id a) e H Q = AW tbl a e H (InBlock id Q) := by
  apply propext; constructor
  · rintro ⟨n, x, e', H', h, hq⟩
    simp only [ax, Option.map_eq_some_iff] at h
    obtain ⟨⟨x1, e1, H1⟩, h1, he⟩ := h
    simp only [Prod.mk.injEq] at he
    obtain ⟨rfl, rfl, rfl⟩ := he
    exact ⟨n, x1, e1, H1, h1, hq⟩
  · rintro ⟨n, x, e', H', h, hq⟩
    exact ⟨n, _, e', H', by simp only [ax, Option.map_eq_some_iff]; exact ⟨_, h, rfl⟩, hq⟩

/-- One round of a loop. -/
theorem AW_loop {a : ACode} : AW tbl (.loop a) e H Q = AW tbl a e H (Then (fun e H => AW tbl (.loop a) e H Q) Q) := by
  apply propext; constructor
  · rintro ⟨n, x, e', H', h, hq⟩
    simp only [ax] at h
    cases n with
    | zero => simp [iter] at h
    | succ n =>
      simp only [iter, Option.bind_eq_some_iff] at h
      obtain ⟨⟨x1, e1, H1⟩, h1, h⟩ := h
      refine ⟨n + 1, x1, e1, H1, h1, ?_⟩
      cases x1 with
      | normal => exact ⟨n + 1, x, e', H', by simp only [ax]; exact iter_mono (fun _ _ _ h => h) (by omega) h, hq⟩
      | ret => simp only [Option.some.injEq, Prod.mk.injEq] at h; obtain ⟨rfl, rfl, rfl⟩ := h; exact hq
      | exit i => simp only [Option.some.injEq, Prod.mk.injEq] at h; obtain ⟨rfl, rfl, rfl⟩ := h; exact hq
  · rintro ⟨n, x1, e1, H1, h1, hq⟩
    cases x1 with
    | normal =>
      obtain ⟨m, x, e', H', h, hq⟩ := hq
      refine ⟨max n m + 1, x, e', H', ?_, hq⟩
      simp only [ax, iter, Option.bind_eq_some_iff] at h ⊢
      exact ⟨_, ax_mono (Le.refl _) (by omega) h1, iter_mono (fun _ _ _ h => ax_mono (Le.refl _) (by omega) h) (by omega) h⟩
    | ret => exact ⟨n + 1, _, _, _, by simp only [ax, iter, Option.bind_eq_some_iff]; exact ⟨_, ax_mono (Le.refl _) (by omega) h1, rfl⟩, hq⟩
    | exit i => exact ⟨n + 1, _, _, _, by simp only [ax, iter, Option.bind_eq_some_iff]; exact ⟨_, ax_mono (Le.refl _) (by omega) h1, rfl⟩, hq⟩

theorem AW_reg {ops : List AOper} {live : List Nat} : AW tbl (.reg ops live) e H Q = AO tbl ops e H (fun e H => Q .normal (keep e live) H) := by
  apply propext; constructor
  · rintro ⟨n, x, e', H', h, hq⟩
    simp only [ax, Option.map_eq_some_iff] at h
    obtain ⟨⟨e1, H1⟩, h1, he⟩ := h
    simp only [Prod.mk.injEq] at he
    obtain ⟨rfl, rfl, rfl⟩ := he
    exact ⟨e1, H1, h1, hq⟩
  · rintro ⟨e', H', h, hq⟩
    exact ⟨0, _, _, _, by simp only [ax, Option.map_eq_some_iff]; exact ⟨_, h, rfl⟩, hq⟩
theorem AW_regd {ops : List DOper} {live : List Nat} : AW tbl (.regd ops live) e H Q = AOD tbl ops [] e H (fun e H => Q .normal (keep e live) H) := by
  apply propext; constructor
  · rintro ⟨n, x, e', H', h, hq⟩
    simp only [ax, Option.map_eq_some_iff] at h
    obtain ⟨⟨e1, H1⟩, h1, he⟩ := h
    simp only [Prod.mk.injEq] at he
    obtain ⟨rfl, rfl, rfl⟩ := he
    exact ⟨e1, H1, h1, hq⟩
  · rintro ⟨e', H', h, hq⟩
    exact ⟨0, _, _, _, by simp only [ax, Option.map_eq_some_iff]; exact ⟨_, h, rfl⟩, hq⟩

variable {R : Env → Heap → Prop}
theorem yao : AO tbl [] e H R = R e H := by
  apply propext; constructor
  · rintro ⟨e', H', h, hq⟩
    simp only [aops, Option.some.injEq, Prod.mk.injEq] at h
    obtain ⟨rfl, rfl⟩ := h; exact hq
  · intro h; exact ⟨e, H, rfl, h⟩
/-- An operation's value, and what holds with it. -/
def Op1 (r : Option (Value × Heap)) (K : Value → Heap → Prop) : Prop := ∃ v H', r = some (v, H') ∧ K v H'
theorem ycf {v : Value} {H' : Heap} {K : Value → Heap → Prop} : Op1 (some (v, H')) K = K v H' := by
  apply propext; constructor
  · rintro ⟨v1, H1, h, hk⟩; injection h with h; injection h with h1 h2; subst h1; subst h2; exact hk
  · intro h; exact ⟨v, H', rfl, h⟩
theorem AO_op {d : Option Nat} {op : AOp} {r : List AOper} : AO tbl (⟨d, none, op⟩ :: r) e H R = Op1 (dval (AC tbl) op e H) (fun v H' => AO tbl r (putE e d v) H' R) := by
  apply propext; constructor
  · rintro ⟨e', H', h, hq⟩
    simp only [aops, step, want, does, Option.bind_eq_some_iff, Option.map_eq_some_iff] at h
    obtain ⟨⟨e1, H1⟩, ⟨⟨v, H2⟩, hv, he⟩, h⟩ := h
    simp only [Prod.mk.injEq] at he
    obtain ⟨rfl, rfl⟩ := he
    exact ⟨v, H2, hv, e', H', h, hq⟩
  · rintro ⟨v, H2, hv, e', H', h, hq⟩
    exact ⟨e', H', by simp only [aops, step, want, does, Option.bind_eq_some_iff, Option.map_eq_some_iff]; exact ⟨_, ⟨_, hv, rfl⟩, h⟩, hq⟩
theorem AO_guard {d : Option Nat} {t : Nat} {b c : Bool} {op : AOp} {r : List AOper} (hl : lk e t = some (.bool c)) :
    AO tbl (⟨d, some (t, b), op⟩ :: r) e H R = if c = b then AO tbl (⟨d, none, op⟩ :: r) e H R else AO tbl r (putE e d undef) H R := by
  by_cases h : c = b
  · rw [if_pos h]
    subst h
    unfold AO
    simp only [aops, step, want, hl, beq_self_eq_true, does]
  · rw [if_neg h]
    have : (c == b) = false := by simpa using h
    unfold AO
    simp only [aops, step, want, hl, this, zag]
theorem yax {hist : List Heap} : AOD tbl [] hist e H R = R e H := by
  apply propext; constructor
  · rintro ⟨e', H', h, hq⟩
    simp only [aopsD, Option.some.injEq, Prod.mk.injEq] at h
    obtain ⟨rfl, rfl⟩ := h; exact hq
  · intro h; exact ⟨e, H, rfl, h⟩
theorem AOD_op {d : Option Nat} {op : AOp} {eff : Bool} {back : Nat} {r : List DOper} {hist : List Heap} : AOD tbl (⟨⟨d, none, op⟩, eff, back⟩ :: r) hist e H R =
    Op1 (dval (AC tbl) op e H) (fun v H' => okBack ⟨⟨d, none, op⟩, eff, back⟩ hist e H = true ∧ AOD tbl r (if eff then H :: hist else hist) (putE e d v) H' R) := by
  apply propext; constructor
  · rintro ⟨e', H', h, hq⟩
    simp only [aopsD, step, want, does, Option.bind_eq_some_iff, Option.map_eq_some_iff] at h
    obtain ⟨⟨e1, H1⟩, ⟨⟨v, H2⟩, hv, he⟩, h⟩ := h
    simp only [Prod.mk.injEq] at he
    obtain ⟨rfl, rfl⟩ := he
    split at h
    · rename_i hb; exact ⟨v, H2, hv, hb, e', H', h, hq⟩
    · simp at h
  · rintro ⟨v, H2, hv, hb, e', H', h, hq⟩
    exact ⟨e', H', by simp only [aopsD, step, want, does, Option.bind_eq_some_iff, Option.map_eq_some_iff]; exact ⟨_, ⟨_, hv, rfl⟩, by rw [if_pos hb]; exact h⟩, hq⟩
theorem AOD_guard {d : Option Nat} {t : Nat} {b c : Bool} {op : AOp} {eff : Bool} {back : Nat} {r : List DOper} {hist : List Heap} (hl : lk e t = some (.bool c)) :
    AOD tbl (⟨⟨d, some (t, b), op⟩, eff, back⟩ :: r) hist e H R = if c = b then Op1 (dval (AC tbl) op e H) (fun v H' => okBack ⟨⟨d, none, op⟩, eff, back⟩ hist e H = true ∧ AOD tbl r (if eff then H :: hist else hist) (putE e d v) H' R)
      else AOD tbl r (if eff then H :: hist else hist) (putE e d undef) H R := by
  by_cases h : c = b
  · rw [if_pos h, ← AOD_op]
    subst h
    unfold AOD
    simp only [aopsD, step, want, hl, beq_self_eq_true, does, okBack]
    rfl
  · rw [if_neg h]
    have : (c == b) = false := by simpa using h
    unfold AOD
    simp only [aopsD, step, want, hl, this, zag, okBack]
    simp

/-- A function that is reckoned in a memory of its own. -/
theorem AC_iso {f : Nat} {vs : List Value} {F : AFn} {v : Value} (hF : tbl f = some F) (hl : vs.length ≤ F.ntmps) (hi : F.iso = true) (hvs : vs.all (constV 9) = true) (hv : constV 9 v = true)
    (h : AC tbl f vs [] = some (v, [])) (H : Heap) : AC tbl f vs H = some (v, H) := by
  cases H with
  | nil => exact h
  | cons b H =>
    obtain ⟨n, hn⟩ := (AC_iff tbl).1 h
    refine (AC_iff tbl).2 ⟨n + 1, ?_⟩
    simp only [ac, Option.bind_eq_some_iff]
    refine ⟨F, hF, ?_⟩
    rw [if_pos hl, if_pos (by simp [hi, hvs])]
    simp only [Option.bind_eq_some_iff]
    exact ⟨_, hn, by simp [hv]⟩

/-- A function, out of its body. -/
theorem AC_of {f : Nat} {vs : List Value} {F : AFn} {r : Value × Heap} (hF : tbl f = some F) (hl : vs.length ≤ F.ntmps) (hi : F.iso = false ∨ H = [])
    (h : AW tbl F.body (argsE 0 vs) H fun x e' H' => (∀ i, x ≠ .exit i) ∧ ∃ rvs, ares e' H' F.results = some rvs ∧ fin F.trunc H.length (tup rvs) H' = r) : AC tbl f vs H = some r := by
  obtain ⟨n, x, e', H', hax, hx, rvs, hrvs, hfin⟩ := h
  obtain ⟨m, hm⟩ := ax_fin hax
  refine (AC_iff tbl).2 ⟨max n m + 1, ?_⟩
  simp only [ac, Option.bind_eq_some_iff]
  refine ⟨F, hF, ?_⟩
  rw [if_pos hl, if_neg (by rcases hi with hi | rfl <;> simp [*])]
  simp only [Option.bind_eq_some_iff]
  refine ⟨(x, e', H'), ax_mono (ac_mono tbl (Nat.le_max_right n m)) (Nat.le_max_left n m) hm, ?_⟩
  cases x with
  | exit i => exact absurd rfl (hx i)
  | normal => simp only [hrvs, zah, hfin]
  | ret => simp only [hrvs, zah, hfin]
end

end Go.Proofs.Ytejcabdejoameaa.AI

