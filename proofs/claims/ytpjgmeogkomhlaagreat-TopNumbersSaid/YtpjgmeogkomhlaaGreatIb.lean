/-
  The estimator's step, and what is asked of it, run on letters: no sample, or one without sensors. No conditions.
-/
import Derived.Test.YtpjgmeogkomhlaaGreatPm
namespace Go.Proofs.YtpjgmeogkomhlaaGreat
open Go.RowKit
set_option maxRecDepth 1000000 in
theorem run_fm : runT false true (.var 0) (.var 1) = true := by kernel_rfl
set_option maxRecDepth 1000000 in
theorem run_fff : runT false false (.lit false) (.lit false) = true := by kernel_rfl
set_option maxRecDepth 1000000 in
theorem run_ftf : runT false false (.lit true) (.lit false) = true := by kernel_rfl
set_option maxRecDepth 1000000 in
theorem run_tm : runT true true (.var 0) (.var 1) = true := by kernel_rfl
set_option maxRecDepth 1000000 in
theorem run_tff : runT true false (.lit false) (.lit false) = true := by kernel_rfl
set_option maxRecDepth 1000000 in
theorem run_ttf : runT true false (.lit true) (.lit false) = true := by kernel_rfl
end Go.Proofs.YtpjgmeogkomhlaaGreat
