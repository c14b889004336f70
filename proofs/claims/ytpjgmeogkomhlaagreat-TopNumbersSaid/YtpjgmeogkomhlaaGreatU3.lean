/-
  The run of act 3, checked. No conditions.
-/
import Derived.Test.YtpjgmeogkomhlaaGreatYd
import Derived.KernelRfl
namespace Go.Proofs.YtpjgmeogkomhlaaGreat
open Go.RowKit
theorem u3_run : (runK Tryz.prog tsL fsS hookC 5000).2 [] 18 body13 u3t u3h (fun t h => chkSt u4t u4h t h) (fun _ _ _ => false) (fun _ _ => false) = true := by kernel_rfl
end Go.Proofs.YtpjgmeogkomhlaaGreat
