/- Operations, fifth part: conversions, slices, built-in functions. -/
import Derived.Test.YtlbhbjaimcinbaaAI7
import Derived.Laws.IdiomStrings
namespace Go.Proofs.Ytlbhbjaimcinbaa.AI
open Go

section
variable {P : Program} {τ σ : Nat → Nat} {base : Nat} {B : Map} {H : Heap} {w : World} {e : Env} {a : Act} {o : Oper} {v : Value} {H' : Heap}

theorem cvI_ok {s d : TypeId} {k k0 : IntKind} {x : Operand} {x' : Arg} (hr : HR σ base B H w) (ht : TR σ B e a) (hop : o.op = .convert s d x)
    (hs : P.underlying s = some (.int k0)) (hd : P.underlying d = some (.int k)) (hx : cArg τ σ x = some x') (h : aop (.cvI k x') e H = some (v, H')) : OpOK P σ base B H w a o v H' := by
  simp only [aop, Option.bind_eq_some_iff, Option.map_eq_some_iff] at h
  obtain ⟨vx, hvx, n, hn, he⟩ := h
  injection he with e1 e2; subst e1; subst e2
  obtain ⟨k1, rfl⟩ := intOf_eq hn
  have ex := (ev_sound ht hx hvx).of_int
  refine OpOK.pure hr ?_ (.atom _ rfl)
  simp only [execOp, hop, ex, convert, Conv.intToInt, Sem.run_bind, run_underlying hs, run_underlying hd, Result.andThen_ok, Sem.run_pure]

theorem cvIS_ok {s d : TypeId} {k0 : IntKind} {x : Operand} {x' : Arg} (hr : HR σ base B H w) (ht : TR σ B e a) (hop : o.op = .convert s d x)
    (hs : P.underlying s = some (.int k0)) (hd : P.underlying d = some .string) (hx : cArg τ σ x = some x') (h : aop (.cvIS x') e H = some (v, H')) : OpOK P σ base B H w a o v H' := by
  simp only [aop, Option.bind_eq_some_iff, Option.map_eq_some_iff] at h
  obtain ⟨vx, hvx, n, hn, r, hr0, he⟩ := h
  injection he with e1 e2; subst e1; subst e2
  obtain ⟨k1, rfl⟩ := intOf_eq hn
  have ex := (ev_sound ht hx hvx).of_int
  simp only [Conv.intToString, Pure.pure, eval0, Option.some.injEq] at hr0
  subst hr0
  refine OpOK.pure hr ?_ (.atom _ rfl)
  simp only [execOp, hop, ex, convert, Conv.intToString, Sem.run_bind, run_underlying hs, run_underlying hd, Result.andThen_ok, Sem.run_pure]

theorem cvSS_ok {s d : TypeId} {x : Operand} {x' : Arg} (hr : HR σ base B H w) (ht : TR σ B e a) (hop : o.op = .convert s d x)
    (hs : P.underlying s = some .string) (hd : P.underlying d = some .string) (hx : cArg τ σ x = some x') (h : aop (.cvSS x') e H = some (v, H')) : OpOK P σ base B H w a o v H' := by
  simp only [aop] at h
  split at h
  · rename_i b hvx
    injection h with h; injection h with e1 e2; subst e1; subst e2
    have ex := (ev_sound ht hx hvx).of_string
    refine OpOK.pure hr ?_ (.atom _ rfl)
    simp only [execOp, hop, ex, convert, Sem.run_bind, run_underlying hs, run_underlying hd, Result.andThen_ok, Sem.run_pure]
  · simp at h

theorem cvSB_ok {s d el : TypeId} {x : Operand} {x' : Arg} (hr : HR σ base B H w) (ht : TR σ B e a) (hop : o.op = .convert s d x)
    (hs : P.underlying s = some .string) (hd : P.underlying d = some (.slice el)) (hel : P.underlying el = some (.int .u8)) (hx : cArg τ σ x = some x') (h : aop (.cvSB x') e H = some (v, H')) :
    OpOK P σ base B H w a o v H' := by
  simp only [aop] at h
  split at h
  · rename_i b hvx
    injection h with h; injection h with e1 e2; subst e1; subst e2
    have ex := (ev_sound ht hx hvx).of_string
    have hrun := run_bytes_of_string (P := P) w s d el b hs hd hel
    have hge := grownCap_ge w b.size 0 el
    generalize grownCap w b.size 0 el = c at hrun hge
    have hsz : (bytesRow b c).toList.length = c := by simp [bytesRow]; omega
    have hsz' : (bytesRow b c).size = c := by simpa using hsz
    have hvs : VRs σ B (b.data.toList.map fun b => (Value.int .u8 b.toNat)) ((bytesRow b c).toList.take (b.data.toList.map fun b => (Value.int .u8 b.toNat)).length) := by
      have e1 : (bytesRow b c).toList = (b.data.toList.map fun b => (Value.int .u8 b.toNat)) ++ List.replicate (c - b.size) (.int .u8 0) := by simp [bytesRow]
      rw [e1, List.take_left]
      refine ⟨rfl, fun j x x' hx hx' => ?_⟩
      rw [hx] at hx'; injection hx' with hx'; subst hx'
      rw [List.getElem?_map] at hx
      simp only [Option.map_eq_some_iff] at hx
      obtain ⟨y, _, rfl⟩ := hx
      exact .atom _ rfl
    obtain ⟨h1, h2⟩ := hr.alloc (w' := w.drew.alloc (.cells (bytesRow b c) el ((bytesRow b c).size, (bytesRow b c).size + 1))) (cs := (bytesRow b c).toList) rfl rfl rfl rfl
      (fun o ho => by simp only [hsz'] ; omega) (by simp; have : b.data.size = b.size := rfl; omega) hvs
    refine ⟨_, _, _, .inl ?_, .slice H.length 0 b.size 1 c ⟨w.heap.size, 0, some (bytesRow b c).toList.length⟩ (bind1_self _ _ _) hge (fun s hs => by simp at hs; omega), h1, h2⟩
    simp only [execOp, hop, ex, Sem.run_bind, hrun, Result.andThen_ok, Sem.run_pure, Nat.add_zero]
  · simp at h

theorem bytesOf_eq : ∀ {cs : List Value} {l : List UInt8}, bytesOf? cs = some l → ∃ ns : List Int, cs = ns.map (Value.int .u8) ∧ l = ns.map fun n => UInt8.ofNat n.toNat := by
  intro cs
  induction cs with
  | nil => intro l h; simp only [bytesOf?, Option.some.injEq] at h; subst h; exact ⟨[], rfl, rfl⟩
  | cons c cs ih =>
    intro l h
    unfold bytesOf? at h
    split at h
    · simp at *
    · rename_i n r heq
      injection heq with e1 e2; subst e1; subst e2
      simp only [Option.map_eq_some_iff] at h
      obtain ⟨l', hl', rfl⟩ := h
      obtain ⟨ns, rfl, rfl⟩ := ih hl'
      exact ⟨n :: ns, rfl, rfl⟩
    · simp at h

theorem foldl_push : ∀ (ns : List Int) (s : ByteArray), ns.foldl (fun r n => r.push (UInt8.ofNat n.toNat)) s = ⟨s.data ++ (ns.map fun n => UInt8.ofNat n.toNat).toArray⟩ := by
  intro ns
  induction ns with
  | nil => intro s; simp
  | cons n ns ih => intro s; simp only [List.foldl_cons, ih]; simp [ByteArray.push]

theorem VRs.of_ints {ns : List Int} {k : IntKind} {l : List Value} (h : VRs σ B (ns.map (Value.int k)) l) : l = ns.map (Value.int k) := by
  apply List.ext_getElem?
  intro j
  by_cases hj : j < ns.length
  · have h1 : (ns.map (Value.int k))[j]? = some (.int k ns[j]) := by simp [hj]
    obtain ⟨x', hx', r⟩ := h.get h1
    rw [hx', h1, r.of_int]
  · have := h.1; simp at this
    rw [List.getElem?_eq_none (by omega), List.getElem?_eq_none (by simp; omega)]

/-- The cells that a slice of memory, or a string, shows. -/
theorem firstCells_run (hr : HR σ base B H w) {s s' : Value} {sz n : Nat} {cs : List Value} (rv : VR σ B s s') (hn : lenV s = some n) (h : cellsOfSlice H sz s = some cs) :
    ∃ cs', (∀ w' : World, w'.heap = w.heap → (Builtin.firstCells sz n s').run P w' = .ok ⟨cs'⟩ w') ∧ VRs σ B cs cs' ∧ (∀ w' : World, (Builtin.lenOf s').run P w' = .ok n w') ∧ cs.length = n * sz ∧ (∀ k, k ≤ n → (Builtin.firstCells sz k s').run P w = .ok ⟨cs'.take (k * sz)⟩ w) := by
  unfold cellsOfSlice at h
  split at h
  · injection h with h; subst h
    simp only [lenV, Option.some.injEq] at hn; subst hn
    have := rv.atom_eq rfl; subst this
    exact ⟨[], fun _ _ => rfl, VRs.nil, fun _ => rfl, by simp, fun k _ => by simp [Builtin.firstCells]⟩
  · rename_i ad m z
    simp only [lenV, Option.some.injEq] at hn; subst hn
    obtain ⟨p, c, hp, hs, hcase⟩ := rv.of_slice
    have hlen : ∀ w' : World, (Builtin.lenOf s').run P w' = .ok m w' := by
      intro w'
      rcases hcase with ⟨rfl, _⟩ | ⟨rfl, _, a', rfl⟩ <;> rfl
    by_cases h0 : m = 0
    · rw [if_pos h0] at h
      injection h with h; subst h; subst h0
      have hk0 : ∀ w' : World, (Builtin.firstCells sz 0 s').run P w' = .ok ⟨[]⟩ w' := by
        intro w'
        rcases hcase with ⟨rfl, _⟩ | ⟨_, _, a', rfl⟩
        · simp [Builtin.firstCells, loadCells, loadCellsFrom]
        · cases a' <;> simp [Builtin.firstCells, loadCells, loadCellsFrom]
      refine ⟨[], fun w' _ => hk0 w', VRs.nil, hlen, by simp, fun k hk => ?_⟩
      obtain rfl : k = 0 := by omega
      simpa using hk0 w
    · rw [if_neg h0] at h
      simp only [Option.bind_eq_some_iff] at h
      obtain ⟨b, hb, h⟩ := h
      split at h
      · rename_i hle
        injection h with h; subst h
        rcases hcase with ⟨rfl, _⟩ | ⟨h1, _⟩
        · obtain ⟨vs, hvs, hl, hc⟩ := hr.cells hb hp ad.off (m * sz) hle
          refine ⟨vs, fun w' hw' => ?_, hvs, hlen, by rw [hvs.1, hl], fun k hk => run_firstCells_some w sz k _ m c _ (by rw [List.length_take, hl]; exact Nat.min_eq_left (Nat.mul_le_mul_right _ hk)) (fun j v hv => by
            rw [List.getElem?_take] at hv
            split at hv
            · rw [Addr_add]; exact hc j v hv
            · simp at hv)⟩
          have hcell : ∀ x : Addr, w'.cell? x = w.cell? x := fun x => by simp [World.cell?, hw']
          exact run_firstCells_some w' sz m _ m c vs hl (fun j v hv => by rw [Addr_add, hcell]; exact hc j v hv)
        · exact absurd h1 h0
      · simp at h
  · rename_i b
    simp only [lenV, Option.some.injEq] at hn; subst hn
    split at h
    · rename_i h1
      injection h with h; subst h; subst h1
      have := rv.of_string; subst this
      refine ⟨b.data.toList.map fun b => .int .u8 b.toNat, fun w' _ => ?_, ?_, fun _ => rfl, by simp, fun k hk => ?_⟩
      · simp only [Builtin.firstCells, Sem.run_pure]
        congr 1
        apply Array.ext'
        have : b.extract 0 b.size = b := by simp
        rw [this]
        simp
      · refine ⟨rfl, fun j x x' hx hx' => ?_⟩
        rw [hx] at hx'; injection hx' with hx'; subst hx'
        rw [List.getElem?_map] at hx
        simp only [Option.map_eq_some_iff] at hx
        obtain ⟨y, _, rfl⟩ := hx
        exact .atom _ rfl
      · simp only [Builtin.firstCells, Sem.run_pure]
        congr 1
        apply Array.ext'
        rw [Array.toList_map, ← List.map_take]
        congr 1
        simp [ByteArray.data_extract]
    · simp at h
  · simp at h

theorem cvBS_ok {s d el : TypeId} {x : Operand} {x' : Arg} (hr : HR σ base B H w) (ht : TR σ B e a) (hop : o.op = .convert s d x)
    (hs : P.underlying s = some (.slice el)) (hel : P.underlying el = some (.int .u8)) (hd : P.underlying d = some .string) (hx : cArg τ σ x = some x') (h : aop (.cvBS x') e H = some (v, H')) :
    OpOK P σ base B H w a o v H' := by
  simp only [aop] at h
  split at h
  · rename_i ad n c hvx
    simp only [Option.bind_eq_some_iff, Option.map_eq_some_iff] at h
    obtain ⟨cs, hcs, l, hl, he⟩ := h
    injection he with e1 e2; subst e1; subst e2
    have rv := ev_sound ht hx hvx
    obtain ⟨cs', hrun, hvs, _, hlen, _⟩ := firstCells_run (P := P) hr rv rfl hcs
    have hrun := hrun w rfl
    obtain ⟨ns, rfl, rfl⟩ := bytesOf_eq hl
    have hcs' := hvs.of_ints; subst hcs'
    refine OpOK.pure hr ?_ (.atom _ rfl)
    have key : (Conv.bytesToString (a.eval x)).run P w = .ok (.string ⟨(ns.map fun n => UInt8.ofNat n.toNat).toArray⟩) w := by
      generalize a.eval x = y at rv hrun
      have nn : ns = [] → (ns.map fun n => UInt8.ofNat n.toNat).toArray = (ByteArray.empty).data := fun h => by subst h; rfl
      cases y with
      | slice ao m c' =>
        cases ao with
        | none =>
          simp only [Builtin.firstCells, Sem.run_pure, Result.ok.injEq, and_true] at hrun
          have : ns = [] := by
            have := congrArg Array.size hrun
            simp at this
            exact List.eq_nil_of_length_eq_zero this.symm
          simp only [Conv.bytesToString, Sem.run_pure, nn this]
        | some ad' =>
          have hm : m = n := by
            cases ad with
            | none => cases rv
            | some ad =>
              obtain ⟨p, c1, _, _, hcase⟩ := rv.of_slice
              rcases hcase with ⟨he, _⟩ | ⟨h0, _, a', he⟩
              · injection he
              · injection he with _ e2 _; omega
          subst hm
          simp only [Builtin.firstCells, Nat.mul_one] at hrun
          rw [run_bytesToString w ad' m c' ns hrun, foldl_push]
          simp [ByteArray.empty, ByteArray.emptyWithCapacity]
          rfl
      | _ => cases rv
    simp only [execOp, hop, Sem.run_bind]
    have hcv : (convert s d (a.eval x)).run P w = (Conv.bytesToString (a.eval x)).run P w := by
      generalize a.eval x = y at rv
      cases y with
      | slice ao m c' => exact run_convert_bytes_string w s d el ao m c' hs hel hd
      | _ => cases rv
    rw [hcv, key]
    simp only [Result.andThen_ok, Sem.run_pure]
  · simp at h

end
end Go.Proofs.Ytlbhbjaimcinbaa.AI
