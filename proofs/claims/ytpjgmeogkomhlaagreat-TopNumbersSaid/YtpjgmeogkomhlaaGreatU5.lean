/-
  The run of act 5, checked. No conditions.
-/
import Derived.Test.YtpjgmeogkomhlaaGreatYd
import Derived.KernelRfl
namespace Go.Proofs.YtpjgmeogkomhlaaGreat
open Go.RowKit
theorem u5_run : (runK Tryz.prog tsL fsS hookC 5000).2 [] 18 body13 u5t u5h (fun t h => chkSt u6t u6h t h) (fun _ _ _ => false) (fun _ _ => false) = true := by kernel_rfl
end Go.Proofs.YtpjgmeogkomhlaaGreat
