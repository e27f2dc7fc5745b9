/- Regions, statements, functions. -/
import Derived.Test.YtlbhbjaimcinbaaAI17
namespace Go.Proofs.Ytlbhbjaimcinbaa.AI
open Go

section
variable {P : Program} {τ σ : Nat → Nat} {base : Nat}
variable {call : Nat → List Value → Heap → Option (Value × Heap)}

theorem ready_spec {ops : Array Oper} {listed : Array Bool} {i : Nat} : i ∈ Region.ready .any ops listed ↔ i < ops.size ∧ listed.getD i true = false ∧ ∀ k ∈ direct (ops.getD i default), listed.getD k false = true := by
  simp only [Region.ready, List.mem_filter, List.mem_range, Bool.and_eq_true, Bool.not_eq_true', direct, List.mem_map, Array.mem_toList_iff]
  constructor
  · rintro ⟨hi, h1, h2⟩
    refine ⟨hi, h1, ?_⟩
    rw [Array.getElem?_eq_getElem hi] at h2
    simp only [Option.map_some, Option.getD_some, Array.all_eq_true'] at h2
    rintro k ⟨x, hx, rfl⟩
    have hx1 : x ∈ (ops[i]).after := by have := hx.1; simpa [Array.getD, hi] using this
    have := h2 x hx1
    simpa [hx.2] using this
  · rintro ⟨hi, h1, h2⟩
    refine ⟨hi, h1, ?_⟩
    rw [Array.getElem?_eq_getElem hi]
    simp only [Option.map_some, Option.getD_some, Array.all_eq_true']
    intro x hx
    cases hb : Region.binds .any x with
    | false => simp
    | true =>
      have := h2 x.on ⟨x, by simp [hb, Array.getD, hi, hx], rfl⟩
      simpa using this

theorem any_wp (hm : P.follows .mixedOrders = true) (hcall : CallOK P σ base call) {ops : Array Oper} {os : List AOper} (hos : cOpers P τ σ ops ops.toList = some os) {ord : List (Nat × Nat)}
    (hk : okD ops (preOf ops.toList) (ord.map (·.1)) (permD os ord) = true) {nt : Nat} (hdst : dstOk nt ops.toList = true) {B0 : Map} {H0 : Heap} {w0 : World} {a0 : Act} {e0 e' : Env} {H' : Heap}
    (hsz : nt ≤ a0.tmps.size) (h0 : TR σ B0 e0 a0) (hr0 : HR σ base B0 H0 { w0 with drawn := w0.drawn + 1 }) (h : aopsD call (permD os ord) [] e0 H0 = some (e', H')) {id : Nat} {Q : Exit → Act → World → Prop}
    (hQ : ∀ a' w' B', TR σ B' e' a' → HR σ base B' H' w' → Stp B0 H0 { w0 with drawn := w0.drawn + 1 } B' H' w' → a'.defers = a0.defers → a'.tmps.size = a0.tmps.size → Q .normal a' w') : (Code.region id ops true).wp P Q a0 w0 := by
  obtain ⟨hl1, hl2, F⟩ := okD_facts hk
  obtain ⟨f, f0, f1, f2, f3⟩ := trace h
  generalize hpre : preOf ops.toList = pre at F hk
  generalize hds : permD os ord = ds at *
  rw [List.length_map] at hl1
  generalize hA : (fun (p : Nat) => (ord.map (·.1)).getD p 0) = A at F
  generalize hD : (fun (p : Nat) => ds.getD p ⟨⟨none, none, .new []⟩, false, 0⟩) = D at F
  -- places
  have place : ∀ p, p < ops.size → ∃ ao o, ds[p]? = some ⟨ao, isEff ao.op, (ord.getD p (0, 0)).2⟩ ∧ ops[A p]? = some o ∧ cOper P τ σ ops o = some ao := by
    intro p hp
    have hlen : (permD os ord).length = ord.length := by rw [hds]; omega
    have hop : ord[p]? = some (ord.getD p (0, 0)) := by simp [show p < ord.length by omega]
    obtain ⟨ao, h1, h2⟩ := permD_get hlen p (ord.getD p (0, 0)).1 (ord.getD p (0, 0)).2 hop
    obtain ⟨o, h3, h4⟩ := cOpers_get hos _ ao h1
    refine ⟨ao, o, by rw [← hds]; exact h2, ?_, h4⟩
    have : A p = (ord.getD p (0, 0)).1 := by rw [← hA]; simp [show p < ord.length by omega]
    rw [this]
    simpa using h3
  have dat : ∀ p, p < ops.size → ds[p]? = some (D p) := by
    intro p hp; rw [← hD]; simp [show p < ds.length by omega]
  have T : ∀ p, p < ops.size → PutV call (D p) (f p).1 (f p).2.1 (f (p + 1)).1 (f (p + 1)).2.1 := fun p hp => step_putV (f3 p _ (dat p hp)).1
  have Hs : ∀ p, p < ops.size → (f (p + 1)).2.2 = if (D p).eff then (f p).2.1 :: (f p).2.2 else (f p).2.2 := fun p hp => (f3 p _ (dat p hp)).2.1
  have Bk := fun p (hp : p < ops.size) => (f3 p _ (dat p hp)).2.2
  have Ef : ∀ p, p < ops.size → (D p).eff = isEff (D p).o.op := by
    intro p hp
    obtain ⟨ao, o, h1, _⟩ := place p hp
    have := dat p hp
    rw [h1] at this; injection this with this
    rw [← this]
  rw [hl2] at f1 f2
  refine wp_region_any hm ?_
  generalize hw1 : ({ w0 with drawn := w0.drawn + 1 } : World) = w1 at *
  -- the induction
  have key : ∀ (fuel : Nat) (listed : Array Bool) (a : Act) (w : World), listed.size = ops.size → ((List.range ops.size).filter fun i => !listed.getD i true).length ≤ fuel →
      (∃ B s, Mid σ base ops.size D f B0 H0 w1 a0 (fun p => listed.getD (A p) false = true) B s a w) →
      (∀ i, i < ops.size → listed.getD i false = true → ∀ k ∈ pre.getD i [], listed.getD k false = true) → wpAny P .any ops Q fuel listed a w := by
    have fin : ∀ (listed : Array Bool) (a : Act) (w : World), listed.size = ops.size → Region.ready .any ops listed = [] →
        (∃ B s, Mid σ base ops.size D f B0 H0 w1 a0 (fun p => listed.getD (A p) false = true) B s a w) → Q .normal a w := by
      rintro listed a w hls hrd ⟨B, s, M⟩
      have all : ∀ p, p < ops.size → listed.getD (A p) false = true := by
        intro p
        induction p using Nat.strongRecOn with
        | _ p ih =>
          intro hp
          cases hb : listed.getD (A p) false with
          | true => rfl
          | false =>
            have hlt := F.lt p hp
            have : A p ∈ Region.ready .any ops listed := ready_spec.2 ⟨hlt, by
              simp only [Array.getD, hls, hlt, dif_pos] at hb ⊢; exact hb, fun k hk => by
              obtain ⟨q, hq1, hq2, hq3⟩ := F.ord p hp k hk
              rw [← hq3]; exact ih q hq1 hq2⟩
            rw [hrd] at this; simp at this
      have hh : (f ops.size).2.1 = (f s).2.1 := heap_range F T M.sn (Nat.le_refl _) fun q h1 h2 => by
        cases hqe : (D q).eff with
        | false => rfl
        | true => have := (M.eff q h2 hqe).1 (all q h2); omega
      refine hQ a w B (fun t v hv => ?_) (by rw [← f2, hh]; exact M.hr) (by rw [← f2, hh]; exact M.stp) M.defers M.size
      rw [← f1] at hv
      by_cases hex : ∃ q, q < ops.size ∧ (D q).o.dst = some t
      · obtain ⟨q, hq, hqd⟩ := hex
        rw [lk_after F T hq hqd hq (Nat.le_refl _)] at hv
        exact M.put q hq (all q hq) t hqd v hv
      · rw [lk_before T (Nat.le_refl _) (fun r hr hrd => hex ⟨r, hr, hrd⟩), f0] at hv
        obtain ⟨v', hv', r⟩ := h0 t v hv
        exact ⟨v', by rw [M.old t (fun r hr _ hrd => hex ⟨r, hr, hrd⟩)]; exact hv', r.mono M.stp.ext⟩
    intro fuel
    induction fuel with
    | zero =>
      intro listed a w hls hcnt hM hclo
      have hrd : Region.ready .any ops listed = [] := by
        cases hr : Region.ready .any ops listed with
        | nil => rfl
        | cons i r =>
          have hi : i ∈ Region.ready .any ops listed := by rw [hr]; simp
          obtain ⟨h1, h2, _⟩ := ready_spec.1 hi
          have : i ∈ (List.range ops.size).filter fun i => !listed.getD i true := by simp only [List.mem_filter, List.mem_range]; exact ⟨h1, by rw [h2]; rfl⟩
          have := List.length_pos_of_mem this
          omega
      exact ⟨hrd, fin listed a w hls hrd hM⟩
    | succ fuel ih =>
      intro listed a w hls hcnt hM hclo
      refine ⟨fun hrd => fin listed a w hls hrd hM, fun i hi => ?_⟩
      obtain ⟨hin, hun, hdir⟩ := ready_spec.1 hi
      obtain ⟨p, hp, rfl⟩ := F.sur i hin
      obtain ⟨B, s, M⟩ := hM
      obtain ⟨ao, o, e1, e2, e3⟩ := place p hp
      have ed : D p = ⟨ao, isEff ao.op, (ord.getD p (0, 0)).2⟩ := by
        have := dat p hp; rw [e1] at this; injection this with this; exact this.symm
      have hnl : ¬ listed.getD (A p) false = true := by
        simp only [Array.getD, hls, hin, dif_pos] at hun ⊢; rw [hun]; simp
      have hpre2 : ∀ k ∈ pre.getD (A p) [], listed.getD k false = true := by
        intro k hk
        rcases F.just _ hin k hk with h | ⟨x, hx, hkx⟩
        · exact hdir k h
        · have hxl := hdir x hx
          have hxn : x < ops.size := by
            simp only [Array.getD] at hxl
            split at hxl
            · omega
            · simp at hxl
          exact hclo x hxn hxl k hkx
      have hset : ∀ q, (listed.setIfInBounds (A p) true).getD q false = true ↔ (listed.getD q false = true ∨ q = A p) := by
        intro q
        simp only [Array.getD_eq_getD_getElem?]
        by_cases hq : q = A p
        · subst hq; simp [hls, hin]
        · rw [Array.getElem?_setIfInBounds_ne (Ne.symm hq)]; simp [hq]
      unfold wpOp
      rw [e2]
      simp only
      have hd : ∀ t, o.dst = some t → t < a.tmps.size := by
        intro t ht
        rw [M.size]
        have := List.all_eq_true.1 hdst o (by have := List.mem_of_getElem? (show ops.toList[A p]? = some o by simpa using e2); exact this)
        rw [ht] at this
        exact Nat.lt_of_lt_of_le (of_decide_eq_true this) hsz
      have go := mid_step F T Hs Bk Ef hcall (by rw [f0]; exact h0) M hp hnl (fun q hq hin2 => hpre2 _ hin2)
        (fun q hq hlq r hr hin2 => hclo _ (F.lt q hq) hlq _ hin2) e2 (by rw [ed]; exact e3) hd (Q := Q) (K := wpAny P .any ops Q fuel (listed.setIfInBounds (A p) true))
        (fun a' w' B' s' M' => ih _ a' w' (by simpa using hls) (by
            have hmem : A p ∈ List.range ops.size := List.mem_range.2 hin
            have := filter_lt (p := fun i => !listed.getD i true) (q := fun i => !(listed.setIfInBounds (A p) true).getD i true) (fun y hy => by
              simp only [Array.getD_eq_getD_getElem?] at hy ⊢
              by_cases hq : y = A p
              · subst hq; simp [hls, hin] at hy
              · rw [Array.getElem?_setIfInBounds_ne (Ne.symm hq)] at hy; exact hy) hmem (by rw [hun]; rfl) (by simp only [Array.getD_eq_getD_getElem?]; simp [hls, hin])
            omega)
          ⟨B', s', by
            have : (fun q => (listed.setIfInBounds (A p) true).getD (A q) false = true) = (fun q => listed.getD (A q) false = true ∨ A q = A p) := by
              funext q; exact propext (hset _)
            rw [this]
            exact ⟨M'.sn, fun q hq hqe => by rw [← M'.eff q hq hqe]; refine or_congr Iff.rfl ⟨fun he => ?_, fun he => by rw [he]⟩; by_cases hqp : q = p; exact hqp; exact absurd he (F.inj q p hq hp hqp),
              M'.hr, M'.stp, fun q hq hlq => M'.put q hq (hlq.imp (fun h => h) fun he => by by_cases hqp : q = p; exact hqp; exact absurd he (F.inj q p hq hp hqp)),
              fun t hno => M'.old t fun q hq hlq => hno q hq (hlq.imp (fun h => h) fun he => by rw [he]), M'.defers, M'.size⟩⟩
          (fun j hj hlj k hk => by
            rcases (hset j).1 hlj with h | rfl
            · exact (hset k).2 (.inl (hclo j hj h k hk))
            · exact (hset k).2 (.inl (hpre2 k hk))))
      split at go
      · rename_i hw; rw [if_pos hw]; exact .inl go
      · rename_i hw; rw [if_neg hw]; exact go
  refine key ops.size (Array.replicate ops.size false) a0 w1 (by simp) (Nat.le_trans (List.length_filter_le _ _) (by simp)) ⟨B0, 0, ?_⟩ (fun i hi h => by simp [Array.getD, hi] at h)
  have hno : ∀ p : Nat, ¬ (Array.replicate ops.size false).getD p false = true := fun p => by simp only [Array.getD]; split <;> simp
  exact ⟨Nat.zero_le _, fun p _ _ => ⟨fun h => absurd h (hno _), fun h => by omega⟩, by rw [f0]; exact hr0, by rw [f0]; exact .refl _ _ _, fun q _ h => absurd h (hno _), fun _ _ => rfl, rfl, rfl⟩

end
end Go.Proofs.Ytlbhbjaimcinbaa.AI
