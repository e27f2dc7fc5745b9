/- BitioFull holds, whatever the input. -/
import Derived.Calls
import Derived.Orders
import Derived.RowKit3
import Derived.KernelRfl
import Derived.WalkKit
import Derived.Laws.IdiomStrings
import Derived.Laws.StructEq
import Derived.LoopN
import Derived.Test.YtlbhbjaimcinbaaRows
import Derived.ProofKit
import Derived.OpenShut
import Derived.ChangeMaps5
import Derived.Test.YtlbhbjaimcinbaaFu4
/- A list of fields among a law's arguments. -/
set_option linter.unusedSimpArgs false
namespace Go.Proofs.Ytlbhbjaimcinbaa.AI
open Go Go.ChangeShapes Go.WideShapes Go.ChangeAt Go.RowKit

theorem is64_wf {n : Int} (h : (Lit.int .i64 n).wf = true) : Is64 n := by
  simp only [Lit.wf, Bool.and_eq_true, decide_eq_true_eq] at h
  simp [IntKind.min, IntKind.max, IntKind.signed, IntKind.bits] at h
  exact ⟨by omega, by omega⟩

theorem mapM_get {α β : Type} {f : α → Option β} : ∀ {l : List α} {r : List β}, l.mapM f = some r → ∀ (i : Nat) (x : α), l[i]? = some x → ∃ y, r[i]? = some y ∧ f x = some y := by
  intro l
  induction l with
  | nil => intro r _ i x h; simp at h
  | cons a l ih =>
    intro r h i x hx
    simp only [List.mapM_cons, bind, Option.bind_eq_some_iff, pure, Option.some.injEq] at h
    obtain ⟨y, hy, ys, hys, rfl⟩ := h
    cases i with
    | zero => simp at hx; subst hx; exact ⟨y, rfl, hy⟩
    | succ i => exact ih hys i x (by simpa using hx)

/-- What one field's four cells are. -/
theorem field_open {H : Type} {enc : TypeId × Value → H} {W : World} {n : Nat} {cs : List Value} {y : DataW H × List MemPlace}
    (h : DataW.trod enc Try.prog W 0 (fun _ => true) true n 30 cs = some y) : ∃ f : Fld, cs = f.cells ∧ Is64 f.kind ∧ Is64 f.width ∧ Is64 f.n := by
  obtain ⟨xs, m, rfl, _, hl, hx, hf⟩ := DataW.trod_struct Try.underlying30 h
  have c30 : Try.prog.cellsOf 30 = 4 := by kernel_rfl
  have c3 : Try.prog.cellsOf 3 = 1 := by kernel_rfl
  have c9 : Try.prog.cellsOf 9 = 1 := by kernel_rfl
  rw [c30] at hl
  obtain ⟨a, b, c, d, rfl⟩ : ∃ a b c d, cs = [a, b, c, d] := by
    match cs, hl with
    | [a, b, c, d], _ => exact ⟨a, b, c, d, rfl⟩
  have hxl : xs.length = 4 := hx
  have f0 : DataW.trod enc Try.prog W 0 (fun _ => true) true m 3 ((List.drop 0 [a, b, c, d]).take (Try.prog.cellsOf 3)) = xs[0]? := hf 0 _ rfl
  have f1 : DataW.trod enc Try.prog W 0 (fun _ => true) true m 3 ((List.drop 1 [a, b, c, d]).take (Try.prog.cellsOf 3)) = xs[1]? := hf 1 _ rfl
  have f2 : DataW.trod enc Try.prog W 0 (fun _ => true) true m 3 ((List.drop 2 [a, b, c, d]).take (Try.prog.cellsOf 3)) = xs[2]? := hf 2 _ rfl
  have f3 : DataW.trod enc Try.prog W 0 (fun _ => true) true m 9 ((List.drop 3 [a, b, c, d]).take (Try.prog.cellsOf 9)) = xs[3]? := hf 3 _ rfl
  rw [c3] at f0 f1 f2
  rw [c9] at f3
  simp only [List.drop_zero, List.drop_succ_cons, List.take_succ_cons, List.take_zero] at f0 f1 f2 f3
  obtain ⟨x0, hx0⟩ : ∃ x, xs[0]? = some x := ⟨_, List.getElem?_eq_getElem (by omega)⟩
  obtain ⟨x1, hx1⟩ : ∃ x, xs[1]? = some x := ⟨_, List.getElem?_eq_getElem (by omega)⟩
  obtain ⟨x2, hx2⟩ : ∃ x, xs[2]? = some x := ⟨_, List.getElem?_eq_getElem (by omega)⟩
  obtain ⟨x3, hx3⟩ : ∃ x, xs[3]? = some x := ⟨_, List.getElem?_eq_getElem (by omega)⟩
  obtain ⟨n0, e0, _, w0⟩ := DataW.trod_int Try.underlying3 (f0.trans hx0)
  obtain ⟨n1, e1, _, w1⟩ := DataW.trod_int Try.underlying3 (f1.trans hx1)
  obtain ⟨n2, e2, _, w2⟩ := DataW.trod_int Try.underlying3 (f2.trans hx2)
  obtain ⟨s, e3, _, _⟩ := DataW.trod_string Try.underlying9 (f3.trans hx3)
  simp only [List.cons.injEq, and_true] at e0 e1 e2 e3
  subst e0 e1 e2 e3
  exact ⟨⟨n0, n1, n2, s⟩, rfl, is64_wf w0, is64_wf w1, is64_wf w2⟩

theorem flat_idx : ∀ (l : List Fld) (j : Nat) (x : Value), (flat l)[j]? = some x → ∃ i k f, j = i * 4 + k ∧ l[i]? = some f ∧ f.cells[k]? = some x := by
  intro l
  induction l with
  | nil => intro j x h; simp [flat] at h
  | cons g l ih =>
    intro j x h
    have e : flat (g :: l) = g.cells ++ flat l := by simp [flat]
    rw [e, List.getElem?_append] at h
    have hl : g.cells.length = 4 := rfl
    split at h
    · exact ⟨0, j, g, by omega, rfl, h⟩
    · obtain ⟨i, k, f, h1, h2, h3⟩ := ih _ _ h
      exact ⟨i + 1, k, f, by omega, by simpa using h2, h3⟩
theorem cells_atom {f : Fld} {k : Nat} {x : Value} (h : f.cells[k]? = some x) : atom x = true := by
  have := List.mem_of_getElem? h
  simp only [Fld.cells, List.mem_cons, List.not_mem_nil, or_false] at this
  rcases this with rfl | rfl | rfl | rfl <;> rfl
theorem add_none (b o n : Nat) : (⟨b, o, none⟩ : Addr).add n = ⟨b, o + n, none⟩ := by
  unfold Addr.add; split
  · rename_i h; subst h; rfl
  · rfl

/-- A list of fields, as the law's call has it. -/
structure Fields (W : World) (v : Value) (l : List Fld) (va : Value) (B : Map) (H : Heap) : Prop where
  rel : VR sig B va v
  heap : HR sig W.heap.size B H W
  ro : ∀ i b, hget H i = some b → b.rw = false
  la : LA H va l
  ok : ∀ f ∈ l, Is64 f.kind ∧ Is64 f.width ∧ Is64 f.n

theorem fields_open {H : Type} {enc : TypeId × Value → H} {W : World} {base : Nat} {v : Value} {d : DataW H} {ps : List MemPlace} (hval : Value.okWide Try.prog W .any base 22 v) (h : DataW.Trod enc Try.prog W 0 (fun _ => true) true 22 v d ps) :
    ∃ l va B Hp, Fields W v l va B Hp := by
  obtain ⟨a0, len0, cap0, rfl⟩ := okWide_slice Try.underlying22 hval
  obtain ⟨fuel, hf⟩ := h
  rcases DataW.trod_slice Try.underlying22 hf with ⟨hc, _⟩ | ⟨a, len, cap, elems, rest, n, rfl, hc, _, _, hlc, _, hel, hget', _, _⟩
  · have hc' : Value.slice a0 len0 cap0 = .slice none 0 0 := by simpa [Value.cells] using hc
    rw [hc']
    exact ⟨[], .slice none 0 0, fun _ => none, [], .atom _ rfl, HR.nothing (Nat.le_refl _), fun i b hi => by simp [hget] at hi, .inl ⟨rfl, rfl⟩, fun f hf => by simp at hf⟩
  · have hc' : Value.slice a0 len0 cap0 = .slice (some a) len cap := by simpa [Value.cells] using hc
    rw [hc']
    have c30 : Try.prog.cellsOf 30 = 4 := by kernel_rfl
    rw [c30] at hget'
    by_cases hl0 : len = 0
    · subst hl0
      refine ⟨[], .slice (some ⟨0, 0, none⟩) 0 4, fun i => if i = 0 then some ⟨0, 0, none⟩ else none, [none], .empty 0 0 4 cap ⟨0, 0, none⟩ (some a) rfl rfl, ⟨fun i b hi => ?_, fun i b hi => ?_, fun i j b c p q hi => ?_, fun i p hp => ?_, Nat.le_refl _⟩, fun i b hi => ?_, .inr ⟨0, rfl, .inl rfl⟩, fun f hf => by simp at hf⟩
      · cases i <;> simp [hget] at hi
      · cases i <;> simp [hget] at hi
      · cases i <;> simp [hget] at hi
      · split at hp
        · rename_i h; subst h; simp
        · simp at hp
      · cases i <;> simp [hget] at hi
    · -- each element's cells
      have each : ∀ i, i < len → ∃ (f : Fld), (Is64 f.kind ∧ Is64 f.width ∧ Is64 f.n) ∧ ∀ k x, f.cells[k]? = some x → W.cell? ((a.add (i * 4)).add k) = some x := by
        intro i hi
        have h1 := hget' i hi
        have h2 : ∃ y, elems[i]? = some y := ⟨_, List.getElem?_eq_getElem (by omega)⟩
        obtain ⟨y, hy⟩ := h2
        rw [hy, Option.bind_eq_some_iff] at h1
        obtain ⟨cs, hcs, htr⟩ := h1
        obtain ⟨f, rfl, hok⟩ := field_open htr
        refine ⟨f, hok, fun k x hx => ?_⟩
        unfold World.cells? at hcs
        split at hcs
        · have hk : k < 4 := by have := (List.getElem?_eq_some_iff.1 hx).1; simpa [Fld.cells] using this
          obtain ⟨z, hz, hw⟩ := mapM_get hcs k k (by rw [List.getElem?_range hk])
          rw [hx] at hz; injection hz with hz; subst hz
          exact hw
        · simp at hcs
      obtain ⟨l, hll, hlf⟩ : ∃ l : List Fld, l.length = len ∧ ∀ i f, l[i]? = some f → (Is64 f.kind ∧ Is64 f.width ∧ Is64 f.n) ∧ ∀ k x, f.cells[k]? = some x → W.cell? ((a.add (i * 4)).add k) = some x := by
        refine ⟨(List.range len).map fun i => if h : i < len then (each i h).choose else ⟨0, 0, 0, ⟨#[]⟩⟩, by simp, fun i f hf => ?_⟩
        simp only [List.getElem?_map, Option.map_eq_some_iff] at hf
        obtain ⟨j, hj, rfl⟩ := hf
        have hil : i < len := by have := (List.getElem?_eq_some_iff.1 hj).1; simpa using this
        rw [List.getElem?_range hil] at hj
        injection hj with hj; subst hj
        rw [dif_pos hil]
        exact (each i hil).choose_spec
      obtain ⟨f0, hf0⟩ : ∃ f, l[0]? = some f := ⟨_, List.getElem?_eq_getElem (by omega)⟩
      have hcell0 := (hlf 0 f0 hf0).2 0 _ rfl
      have ha0 : (a.add (0 * 4)).add 0 = a := by simp [Addr.add]
      rw [ha0] at hcell0
      obtain ⟨g, o, sp⟩ := a
      have hsp : sp = none := by
        unfold World.cell? at hcell0
        split at hcell0
        · cases sp with
          | none => rfl
          | some q => simp at hcell0
        · simp at hcell0
      subst hsp
      have hg : g < W.heap.size := by
        unfold World.cell? at hcell0
        split at hcell0
        · rename_i h; exact (Array.getElem?_eq_some_iff.1 h).1
        · simp at hcell0
      refine ⟨l, .slice (some ⟨0, 0, none⟩) l.length 4, fun i => if i = 0 then some ⟨g, o, none⟩ else none, [some ⟨false, flat l⟩], ?_, ⟨fun i b hi hb => ?_, fun i b hi hb => ?_, fun i j b c p q hi hj hb => ?_, fun i p hp => ?_, Nat.le_refl _⟩, fun i b hi => ?_, .inr ⟨0, rfl, .inr rfl⟩, fun f hf => ?_⟩
      · rw [hll]
        exact VR.slice 0 0 len 4 cap ⟨g, o, none⟩ rfl hlc (fun s hs => by simp at hs)
      · cases i with
        | zero => simp [hget] at hi; subst hi; simp at hb
        | succ i => simp [hget] at hi
      · cases i with
        | succ i => simp [hget] at hi
        | zero =>
          simp [hget] at hi; subst hi
          refine ⟨g, o, rfl, hg, fun j x hx => ?_⟩
          obtain ⟨i, k, f, rfl, h2, h3⟩ := flat_idx l j x hx
          have := (hlf i f h2).2 k x h3
          rw [add_none, add_none] at this
          exact ⟨x, by rw [← Nat.add_assoc]; exact this, .atom x (cells_atom h3)⟩
      · cases i with
        | zero => simp [hget] at hi; subst hi; simp at hb
        | succ i => simp [hget] at hi
      · split at hp
        · rename_i h; subst h; simp
        · simp at hp
      · cases i with
        | zero => simp [hget] at hi; subst hi; rfl
        | succ i => simp [hget] at hi
      · obtain ⟨i, hi⟩ := List.getElem?_of_mem hf
        exact (hlf i f hi).1

end Go.Proofs.Ytlbhbjaimcinbaa.AI

/- BitioFull holds, whatever the input. -/
set_option linter.unusedVariables false
namespace Go.Proofs.Ytlbhbjaimcinbaa
open Go.ChangeShapes Go.WideShapes Go.ChangeAt Go.RowKit

theorem AI.u8_wf {n : Int} (h : (Lit.int .u8 n).wf = true) : 0 ≤ n ∧ n < 256 := by
  simp only [Lit.wf, Bool.and_eq_true, decide_eq_true_eq] at h
  simp [IntKind.min, IntKind.max, IntKind.signed, IntKind.bits] at h
  exact ⟨by omega, by omega⟩

set_option maxRecDepth 100000 in
theorem bitioFull_lifted (os : Os) (started : os.Started) (H : Type) (enc : TypeId × Value → H) :
    ReturnsInHanded {} Try.checked os 10 .any (Rows.bitioFullSpec.pre6 enc Try.prog Try.f10 Rows.bitioFullRow.domain false) (Rows.bitioFullSpec.post enc Try.prog Try.f10 false true false false) := by
  refine returnsInHanded_of_change (C := Try.checked) AI.own started (by kernel_rfl) Try.func10
    (ChangeSpec.witness6 (enc := enc) (C := Try.checked) false ⟨#[], #[.int .u8 0], []⟩ 8 (by kernel_rfl) (by kernel_rfl) (by kernel_rfl) (by kernel_rfl)) ?_
  intro W base args ds gs before hval0 hW hcnd _
  have hval : ∀ (j : Nat) t v, Try.f10.params[j]? = some t → args[j]? = some v → Value.okWide Try.prog W .any base t v := hval0
  have hW' := hW
  obtain ⟨p, q, hA0, hV, rfl, hfz, hnd⟩ := hW
  have hA : DataW.TrodAll enc Try.prog W 0 (fun _ => true) true Try.f10.params.toList args.toList ds p := hA0
  rw [Try.params10] at hA hval
  obtain ⟨v0, d0, rfl, rfl, h0⟩ := trodAll_one hA
  obtain ⟨rfl, rfl⟩ := trodVars_none hV
  obtain ⟨a, rfl, rfl, rfl, wa⟩ := open_int Try.underlying5 (hval 0 5 v0 rfl rfl) h0
  clear hA0 hval0
  have hc := AI.law_calls (k := 10) (args := [.int .u8 a]) (AI.full [] a (AI.u8_wf wa)) (AI.HR.nothing (w := W) (Nat.le_refl _)) (fun i b hi => by simp [AI.hget] at hi) (AI.VRs.const (σ := AI.sig) (B := fun _ => none) (l := [.int .u8 a]) rfl)
  refine hc.mono fun e W' ⟨he, hb⟩ => ?_
  subst he
  exact ⟨_, rfl, AI.law_post AI.laidOut hW' rfl rfl (by rw [Try.params10]; intro t ht; simp at ht; subst ht; exact ⟨by kernel_rfl, of_decide_eq_true (by kernel_rfl)⟩) hb
    (fun _ _ _ => trodAll_mk1 (shut_bool Try.underlying4 _)) (ok_one (by kernel_rfl) rfl (okWide_bool_mk Try.underlying4 _))⟩

theorem bitioFull_holds : Rows.BitioFullSaid :=
  OpenClaim.holds_of_wide 10 Try.f10 rfl rfl rfl rfl rfl rfl rfl ⟨rfl, rfl, rfl, rfl, rfl⟩ rfl rfl rfl rfl rfl (by kernel_rfl) Try.func10 (by kernel_rfl)
    (of_decide_eq_true (by kernel_rfl)) (by unfold Func.isWrapper; first | (rw [if_pos (by decide +kernel)]; kernel_rfl) | (rw [if_neg (by decide +kernel)]; exact ⟨rfl, rfl⟩))
    (fun os started H enc _ => bitioFull_lifted os started H enc)

end Go.Proofs.Ytlbhbjaimcinbaa

