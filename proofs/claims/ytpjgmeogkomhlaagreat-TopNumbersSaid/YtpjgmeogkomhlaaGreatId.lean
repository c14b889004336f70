/-
  The estimator's step, and what is asked of it, run on letters: one with the sensors. No conditions.
-/
import Derived.Test.YtpjgmeogkomhlaaGreatPm
namespace Go.Proofs.YtpjgmeogkomhlaaGreat
open Go.RowKit
set_option maxRecDepth 1000000 in
theorem run_tft : runT true false (.lit false) (.lit true) = true := by kernel_rfl
set_option maxRecDepth 1000000 in
theorem run_ttt : runT true false (.lit true) (.lit true) = true := by kernel_rfl
end Go.Proofs.YtpjgmeogkomhlaaGreat
