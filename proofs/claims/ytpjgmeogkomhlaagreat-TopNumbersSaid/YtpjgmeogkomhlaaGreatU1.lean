/-
  The run of act 1, checked. No conditions.
-/
import Derived.Test.YtpjgmeogkomhlaaGreatYd
import Derived.KernelRfl
namespace Go.Proofs.YtpjgmeogkomhlaaGreat
open Go.RowKit
theorem u1_run : (runK Tryz.prog tsL fsS hookC 5000).2 [] 18 body13 u1t u1h (fun t h => chkSt u2t u2h t h) (fun _ _ _ => false) (fun _ _ => false) = true := by kernel_rfl
end Go.Proofs.YtpjgmeogkomhlaaGreat
