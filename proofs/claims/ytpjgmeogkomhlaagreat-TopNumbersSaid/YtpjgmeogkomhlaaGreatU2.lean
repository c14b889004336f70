/-
  The run of act 2, checked. No conditions.
-/
import Derived.Test.YtpjgmeogkomhlaaGreatYd
import Derived.KernelRfl
namespace Go.Proofs.YtpjgmeogkomhlaaGreat
open Go.RowKit
theorem u2_run : (runK Tryz.prog tsL fsS hookC 5000).2 [] 18 body13 u2t u2h (fun t h => chkSt u3t u3h t h) (fun _ _ _ => false) (fun _ _ => false) = true := by kernel_rfl
end Go.Proofs.YtpjgmeogkomhlaaGreat
