/-
  TopNumbers: whatever the setting, the estimator and the sample, it is true. No conditions.
-/
import Derived.Test.YtpjgmeogkomhlaaGreatJi
namespace Go.Proofs.YtpjgmeogkomhlaaGreat
open Go.ChangeShapes Go.WideShapes Go.ChangeAt Go.RowKit
theorem and_both {a b : Bool} (h : a = true) (k : b = true) : (a && b) = true := by rw [h, k]; rfl
set_option maxHeartbeats 4000000 in
theorem topNumbers_facts : joinedFacts Tryz.pinned.checked.prog 3 Tryz.f3 Rows.topNumbersSpec Rows.topNumbersRow = true := by
  unfold joinedFacts
  iterate 31 refine and_both ?_ (by as_aux_lemma => kernel_rfl)
  as_aux_lemma => kernel_rfl
theorem topNumbers_over : Rows.topNumbersRow.holds Tryz.pinned (OpenSpec.ofChange Rows.topNumbersSpec) :=
  OpenClaim.holds_of_wide 3 Tryz.f3 rfl rfl rfl rfl rfl rfl rfl ⟨rfl, rfl, rfl, rfl, rfl⟩ rfl rfl rfl rfl rfl (by kernel_rfl) Tryz.func3 topNumbers_facts
    (of_decide_eq_true (by kernel_rfl)) (by unfold Func.isWrapper; first | (rw [if_pos (by decide +kernel)]; kernel_rfl) | (rw [if_neg (by decide +kernel)]; exact ⟨rfl, rfl⟩))
    (fun os started H enc _ => topNumbers_lifted os started H enc)

theorem TopNumbers : Rows.TopNumbersSaid := topNumbers_over
end Go.Proofs.YtpjgmeogkomhlaaGreat
