/- All operations together. -/
import Derived.Test.YtlbhbjaimcinbaaAI12
namespace Go.Proofs.Ytlbhbjaimcinbaa.AI
open Go

section
variable {P : Program} {τ σ : Nat → Nat} {base : Nat} {B : Map} {H : Heap} {w : World} {e : Env} {a : Act} {v : Value} {H' : Heap}

theorem cOp_sound (hr : HR σ base B H w) (ht : TR σ B e a) {o : Oper} {ao : AOp} (hc : cOp P τ σ o.op = some ao) (h : aop ao e H = some (v, H')) : OpOK P σ base B H w a o v H' := by
  generalize hop : o.op = op at hc
  cases op
  case move x =>
    simp only [cOp, Option.map_eq_some_iff] at hc
    obtain ⟨x', hx, rfl⟩ := hc
    exact mov_ok hr ht (.inl hop) hx h
  case assign x =>
    simp only [cOp, Option.map_eq_some_iff] at hc
    obtain ⟨x', hx, rfl⟩ := hc
    exact mov_ok hr ht (.inr hop) hx h
  case pick c x y =>
    simp only [cOp, Option.bind_eq_some_iff] at hc
    obtain ⟨c', hc', x', hx, y', hy, hc⟩ := hc
    injection hc with hc; subst hc
    exact pick_ok hr ht hop hc' hx hy h
  case binOp op t x y u =>
    simp only [cOp, Option.bind_eq_some_iff] at hc
    obtain ⟨x', hx, y', hy, hc⟩ := hc
    split at hc
    · rename_i hu
      injection hc with hc; subst hc
      exact bin_ok hr ht hop hx hy rfl h
    · rename_i hu
      injection hc with hc; subst hc
      exact bin_ok hr ht hop hx hy rfl h
    · rename_i hu
      injection hc with hc; subst hc
      exact eqb_ok hr ht hop hu hx hy (.inl ⟨rfl, rfl⟩) h
    · rename_i hu
      injection hc with hc; subst hc
      exact eqb_ok hr ht hop hu hx hy (.inr ⟨rfl, rfl⟩) h
    · rename_i hu
      injection hc with hc; subst hc
      exact eqp_ok hr ht hop hu hx hy (.inl ⟨rfl, rfl⟩) h
    · rename_i hu
      injection hc with hc; subst hc
      exact eqp_ok hr ht hop hu hx hy (.inr ⟨rfl, rfl⟩) h
    · rename_i hu
      split at hc
      · rename_i hg
        simp only [Option.map_eq_some_iff] at hc
        obtain ⟨tys, hty, rfl⟩ := hc
        exact eqs_ok hr ht hop hu hg hty hx hy (.inl ⟨rfl, rfl⟩) h
      · simp at hc
    · rename_i hu
      split at hc
      · rename_i hg
        simp only [Option.map_eq_some_iff] at hc
        obtain ⟨tys, hty, rfl⟩ := hc
        exact eqs_ok hr ht hop hu hg hty hx hy (.inr ⟨rfl, rfl⟩) h
      · simp at hc
    · simp at hc
  case unOp op t x =>
    simp only [cOp, Option.map_eq_some_iff] at hc
    obtain ⟨x', hx, rfl⟩ := hc
    exact un_ok hr ht hop hx h
  case convert s d x =>
    simp only [cOp, Option.bind_eq_some_iff] at hc
    obtain ⟨x', hx, hc⟩ := hc
    split at hc
    · rename_i h1 h2; injection hc with hc; subst hc; exact cvI_ok hr ht hop h1 h2 hx h
    · rename_i h1 h2; injection hc with hc; subst hc; exact cvIS_ok hr ht hop h1 h2 hx h
    · rename_i h1 h2; injection hc with hc; subst hc; exact cvSS_ok hr ht hop h1 h2 hx h
    · rename_i h1 h2
      split at hc
      · rename_i h3; injection hc with hc; subst hc; exact cvSB_ok hr ht hop h1 h2 h3 hx h
      · simp at hc
    · rename_i h1 h2
      split at hc
      · rename_i h3; injection hc with hc; subst hc; exact cvBS_ok hr ht hop h1 h3 h2 hx h
      · simp at hc
    · simp at hc
  case load t x =>
    simp only [cOp, Option.bind_eq_some_iff] at hc
    obtain ⟨x', hx, n, hn, hc⟩ := hc
    split at hc
    · simp at hc
    · injection hc with hc; subst hc; exact load_ok hr ht hop hx hn h
  case store t x y =>
    simp only [cOp, Option.bind_eq_some_iff] at hc
    obtain ⟨x', hx, y', hy, n, hn, hc⟩ := hc
    split at hc
    · simp at hc
    · injection hc with hc; subst hc; exact store_ok hr ht hop hx hy hn h
  case nilCheck x =>
    simp only [cOp, Option.map_eq_some_iff] at hc
    obtain ⟨x', hx, rfl⟩ := hc
    exact nilck_ok hr ht hop hx h
  case fieldAddr s x f =>
    simp only [cOp] at hc
    split at hc
    · rename_i fs hu
      simp only [Option.bind_eq_some_iff] at hc
      obtain ⟨fd, hf, n, hn, hc⟩ := hc
      split at hc
      · simp at hc
      · rename_i h0
        simp only [Option.map_eq_some_iff] at hc
        obtain ⟨x', hx, rfl⟩ := hc
        exact faddr_ok hr ht hop hu hf hn h0 hx h
    · simp at hc
  case indexAddr t x i =>
    simp only [cOp, Option.bind_eq_some_iff] at hc
    obtain ⟨x', hx, i', hi, hc⟩ := hc
    split at hc
    · rename_i hu
      simp only [Option.bind_eq_some_iff] at hc
      obtain ⟨sz, hsz, hc⟩ := hc
      split at hc
      · simp at hc
      · injection hc with hc; subst hc; exact iaddrA_ok hr ht hop hu hsz hx hi h
    · rename_i hu
      simp only [Option.bind_eq_some_iff] at hc
      obtain ⟨sz, hsz, hc⟩ := hc
      split at hc
      · simp at hc
      · injection hc with hc; subst hc; exact iaddrS_ok hr ht hop hu hsz hx hi h
    · simp at hc
  case index t x i =>
    simp only [cOp, Option.bind_eq_some_iff] at hc
    obtain ⟨x', hx, i', hi, hc⟩ := hc
    split at hc
    · rename_i hu
      simp only [Option.bind_eq_some_iff] at hc
      obtain ⟨sh, hsh, sz, hsz, hc⟩ := hc
      split at hc
      · simp at hc
      · rename_i hne
        simp only [not_or, ne_eq, Decidable.not_not] at hne
        injection hc with hc; subst hc; exact idxA_ok hr ht hop hu hsz hsh hne.2 hx hi h
    · rename_i hu
      injection hc with hc; subst hc; exact idxS_ok hr ht hop hu hx hi h
    · simp at hc
  case field t x f =>
    simp only [cOp] at hc
    split at hc
    · rename_i fs hu
      simp only [Option.bind_eq_some_iff, Option.map_eq_some_iff] at hc
      obtain ⟨fd, hf, sh, hsh, x', hx, rfl⟩ := hc
      exact fld_ok hr ht hop hu hf hsh hx h
    · simp at hc
  case extract x i =>
    simp only [cOp, Option.map_eq_some_iff] at hc
    obtain ⟨x', hx, rfl⟩ := hc
    exact ext_ok hr ht hop hx h
  case alloc t =>
    simp only [cOp, Option.bind_eq_some_iff] at hc
    obtain ⟨z, hz, hc⟩ := hc
    split at hc
    · rename_i hk; injection hc with hc; subst hc; exact alloc_ok hr hop hz hk h
    · simp at hc
  case box t x =>
    simp only [cOp, Option.map_eq_some_iff] at hc
    obtain ⟨x', hx, rfl⟩ := hc
    exact box_ok hr ht hop hx h
  case build t parts =>
    simp only [cOp, Option.bind_eq_some_iff] at hc
    obtain ⟨z, hz, hc⟩ := hc
    split at hc
    · rename_i hk
      split at hc
      · rename_i hu
        simp only [Option.bind_eq_some_iff, Option.map_eq_some_iff] at hc
        obtain ⟨pl, hpl, ps, hps, rfl⟩ := hc
        exact build_okS hr ht hop hz hk hu hpl hps h
      · rename_i hu
        simp only [Option.bind_eq_some_iff, Option.map_eq_some_iff] at hc
        obtain ⟨sz, hsz, ps, hps, rfl⟩ := hc
        exact build_okA hr ht hop hz hk hu hsz hps h
      · simp at hc
    · simp at hc
  case buildSlice t len parts =>
    simp only [cOp] at hc
    split at hc
    · rename_i hu
      simp only [Option.bind_eq_some_iff] at hc
      obtain ⟨sz, hsz, z, hz, hc⟩ := hc
      split at hc
      · rename_i hk
        simp only [Option.map_eq_some_iff] at hc
        obtain ⟨ps, hps, rfl⟩ := hc
        exact buildS_ok hr ht hop hz hk.1 hu hsz hk.2.1 hk.2.2.1 hk.2.2.2 hps h
      · simp at hc
    · simp at hc
  case makeSlice t l c =>
    simp only [cOp] at hc
    split at hc
    · rename_i hu
      simp only [Option.bind_eq_some_iff] at hc
      obtain ⟨i, hi, z, hz, hc⟩ := hc
      split at hc
      · rename_i hk
        simp only [Option.bind_eq_some_iff] at hc
        obtain ⟨l', hl, c', hc', hc⟩ := hc
        injection hc with hc; subst hc
        exact mkS_ok hr ht hop hu hi hz hk.1 hk.2.1 hk.2.2 hl hc' h
      · simp at hc
    · simp at hc
  case slice t x lo hi mx =>
    simp only [cOp, Option.bind_eq_some_iff] at hc
    obtain ⟨x', hx, lo', hl, hi', hh, mx', hm, hc⟩ := hc
    have hmn : mx'.isNone = true → mx = none := by
      intro hn
      cases mx with
      | none => rfl
      | some m =>
        simp only [cOpt, Option.map_eq_some_iff] at hm
        obtain ⟨q, _, rfl⟩ := hm
        simp at hn
    split at hc
    · rename_i hu
      split at hc
      · rename_i hn; injection hc with hc; subst hc; exact slS_ok hr ht hop (hmn hn) hu hx hl hh h
      · simp at hc
    · rename_i hu
      simp only [Option.bind_eq_some_iff] at hc
      obtain ⟨sz, hsz, hc⟩ := hc
      split at hc
      · simp at hc
      · injection hc with hc; subst hc; exact slL_ok hr ht hop hu hsz hx hl hh hm h
    · rename_i hu
      simp only [Option.bind_eq_some_iff] at hc
      obtain ⟨sz, hsz, hc⟩ := hc
      split at hc
      · rename_i hn; injection hc with hc; subst hc; exact slA_ok hr ht hop (hmn hn.1) hu hsz hx hl hh h
      · simp at hc
    · simp at hc
  case makeFunc fn fst cap =>
    cases fn <;> simp only [cOp, reduceCtorEq] at hc
    rename_i f
    simp only [Option.bind_eq_some_iff] at hc
    obtain ⟨a', ha, b', hb, hc⟩ := hc
    split at hc
    · rename_i hf; injection hc with hc; subst hc; exact mkF_ok hr ht hop hf ha hb h
    · simp at hc
  case call c =>
    obtain ⟨callee, args, argTypes⟩ := c
    cases callee with
    | value f => simp [cOp] at hc
    | invoke r m => simp [cOp] at hc
    | builtin b =>
      simp only [cOp, Option.bind_eq_some_iff] at hc
      obtain ⟨as, has, hc⟩ := hc
      have one : ∀ {d}, argTypes.toList.map P.underlying = [d] → ∃ t, argTypes = #[t] ∧ P.underlying t = d := by
        intro d hd
        obtain ⟨l⟩ := argTypes
        cases l with
        | nil => simp at hd
        | cons t l =>
          simp at hd
          obtain ⟨h1, h2⟩ := hd
          subst h2; exact ⟨t, rfl, h1⟩
      have two : ∀ {d d2}, argTypes.toList.map P.underlying = [d, d2] → ∃ t t2, argTypes = #[t, t2] ∧ P.underlying t = d ∧ P.underlying t2 = d2 := by
        intro d d2 hd
        obtain ⟨l⟩ := argTypes
        match l, hd with
        | [], hd => simp at hd
        | [t], hd => simp at hd
        | t :: t2 :: l, hd =>
          simp at hd
          obtain ⟨h1, h2, h3⟩ := hd
          subst h3; exact ⟨t, t2, rfl, h1, h2⟩
      split at hc
      · rename_i hd
        obtain ⟨t, rfl, hu⟩ := one hd
        injection hc with hc; subst hc; exact lenS_ok hr ht hop hu has h
      · rename_i hd
        obtain ⟨t, rfl, hu⟩ := one hd
        injection hc with hc; subst hc; exact lenL_ok hr ht hop hu has h
      · injection hc with hc; subst hc; exact mm_ok (mx := false) hr ht hop has h
      · injection hc with hc; subst hc; exact mm_ok (mx := true) hr ht hop has h
      · rename_i hd
        obtain ⟨t, t2, rfl, hu, hu2⟩ := two hd
        simp only [Option.bind_eq_some_iff] at hc
        obtain ⟨i, hi, sz', hsz', hc⟩ := hc
        split at hc
        · simp at hc
        · rename_i hne
          simp only [not_or] at hne
          simp only [Option.bind_eq_some_iff] at hc
          obtain ⟨z, hz, hc⟩ := hc
          split at hc
          · rename_i hzs; injection hc with hc; subst hc
            exact app_ok hr ht hop hu (.inr ⟨_, hu2⟩) hi hne.2.2 hz hzs has h
          · simp at hc
      · rename_i hd
        obtain ⟨t, t2, rfl, hu, hu2⟩ := two hd
        simp only [Option.bind_eq_some_iff] at hc
        obtain ⟨i, hi, hc⟩ := hc
        split at hc
        · rename_i hne
          simp only [Option.bind_eq_some_iff] at hc
          obtain ⟨z, hz, hc⟩ := hc
          split at hc
          · rename_i hzs; injection hc with hc; subst hc
            exact app_ok hr ht hop hu (.inl hu2) hi hne.2 hz (by rw [hzs, hne.1]) has h
          · simp at hc
        · simp at hc
      · rename_i hd
        obtain ⟨t, t2, rfl, hu, hu2⟩ := two hd
        simp only [Option.bind_eq_some_iff] at hc
        obtain ⟨sz, hsz, hc⟩ := hc
        split at hc
        · simp at hc
        · injection hc with hc; subst hc
          exact copy_ok hr ht hop rfl hu hsz has h
      · simp at hc
  all_goals simp [cOp] at hc

end
end Go.Proofs.Ytlbhbjaimcinbaa.AI
