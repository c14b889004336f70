/-
  The run of act 4, checked. No conditions.
-/
import Derived.Test.YtpjgmeogkomhlaaGreatYd
import Derived.KernelRfl
namespace Go.Proofs.YtpjgmeogkomhlaaGreat
open Go.RowKit
theorem u4_run : (runK Tryz.prog tsL fsS hookC 5000).2 [] 18 body13 u4t u4h (fun t h => chkSt u5t u5h t h) (fun _ _ _ => false) (fun _ _ => false) = true := by kernel_rfl
end Go.Proofs.YtpjgmeogkomhlaaGreat
