/-
  The run of act 0, checked. No conditions.
-/
import Derived.Test.YtpjgmeogkomhlaaGreatYd
import Derived.KernelRfl
namespace Go.Proofs.YtpjgmeogkomhlaaGreat
open Go.RowKit
theorem u0_run : (runK Tryz.prog tsL fsS hookC 5000).2 [] 18 body13 u0t u0h (fun t h => chkSt u1t u1h t h) (fun _ _ _ => false) (fun _ _ => false) = true := by kernel_rfl
end Go.Proofs.YtpjgmeogkomhlaaGreat
