/- BitioWidths holds, whatever the number. -/
import Derived.Test.YtlbhbjaimcinbaaLW
import Derived.Test.YtlbhbjaimcinbaaL0
import Derived.Test.YtlbhbjaimcinbaaRows
set_option linter.unusedVariables false
namespace Go.Proofs.Ytlbhbjaimcinbaa
open Go.ChangeShapes Go.WideShapes Go.ChangeAt Go.RowKit

theorem is64_of_wf {n : Int} (h : (Lit.int .i64 n).wf = true) : AI.Is64 n := by
  simp only [Lit.wf, Bool.and_eq_true, decide_eq_true_eq] at h
  simp [IntKind.min, IntKind.max, IntKind.signed, IntKind.bits] at h
  exact ⟨by omega, by omega⟩

set_option maxRecDepth 100000 in
theorem bitioWidths_lifted (os : Os) (started : os.Started) (H : Type) (enc : TypeId × Value → H) :
    ReturnsInHanded {} Try.checked os 5 .any (Rows.bitioWidthsSpec.pre6 enc Try.prog Try.f5 Rows.bitioWidthsRow.domain false) (Rows.bitioWidthsSpec.post enc Try.prog Try.f5 false true false false) := by
  refine returnsInHanded_of_change (C := Try.checked) AI.own started (by kernel_rfl) Try.func5
    (ChangeSpec.witness6 (enc := enc) (C := Try.checked) false ⟨#[], #[.int .i64 0], []⟩ 8 (by kernel_rfl) (by kernel_rfl) (by kernel_rfl) (by kernel_rfl)) ?_
  intro W base args ds gs before hval0 hW hcnd _
  have hval : ∀ (j : Nat) t v, Try.f5.params[j]? = some t → args[j]? = some v → Value.okWide Try.prog W .any base t v := hval0
  have hW' := hW
  obtain ⟨p, q, hA0, hV, rfl, hfz, hnd⟩ := hW
  have hA : DataW.TrodAll enc Try.prog W 0 (fun _ => true) true Try.f5.params.toList args.toList ds p := hA0
  rw [Try.params5] at hA hval
  obtain ⟨v0, d0, rfl, rfl, h0⟩ := trodAll_one hA
  obtain ⟨rfl, rfl⟩ := trodVars_none hV
  obtain ⟨a, rfl, rfl, rfl, wa⟩ := open_int Try.underlying3 (hval 0 3 v0 rfl rfl) h0
  clear hA0 hval0
  have hc := AI.law_calls (k := 5) (args := [.int .i64 a]) (AI.widths [] a (is64_of_wf wa)) (AI.HR.nothing (w := W) (Nat.le_refl _)) (fun i b hi => by simp [AI.hget] at hi) (AI.VRs.const (σ := AI.sig) (B := fun _ => none) (l := [.int .i64 a]) rfl)
  refine hc.mono fun e W' ⟨he, hb⟩ => ?_
  subst he
  exact ⟨_, rfl, AI.law_post AI.laidOut hW' rfl rfl (by rw [Try.params5]; intro t ht; simp at ht; subst ht; exact ⟨by kernel_rfl, of_decide_eq_true (by kernel_rfl)⟩) hb
    (fun _ _ _ => trodAll_mk1 (shut_bool Try.underlying4 _)) (ok_one (by kernel_rfl) rfl (okWide_bool_mk Try.underlying4 _))⟩

theorem bitioWidths_holds : Rows.BitioWidthsSaid :=
  OpenClaim.holds_of_wide 5 Try.f5 rfl rfl rfl rfl rfl rfl rfl ⟨rfl, rfl, rfl, rfl, rfl⟩ rfl rfl rfl rfl rfl (by kernel_rfl) Try.func5 (by kernel_rfl)
    (of_decide_eq_true (by kernel_rfl)) (by unfold Func.isWrapper; first | (rw [if_pos (by decide +kernel)]; kernel_rfl) | (rw [if_neg (by decide +kernel)]; exact ⟨rfl, rfl⟩))
    (fun os started H enc _ => bitioWidths_lifted os started H enc)

end Go.Proofs.Ytlbhbjaimcinbaa
