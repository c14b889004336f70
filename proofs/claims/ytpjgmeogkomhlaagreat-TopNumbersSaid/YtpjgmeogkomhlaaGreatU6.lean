/-
  The smaller pieces of the run at the head of all statements, checked. No conditions.
-/
import Derived.Test.YtpjgmeogkomhlaaGreatYd
import Derived.KernelRfl
namespace Go.Proofs.YtpjgmeogkomhlaaGreat
open Go.RowKit
theorem t13a_run : (runK Tryz.prog tsL fsS hookC 50).2 [] 18 (sA c13) (argsX 0 callArgs .nil) s1h (fun t h => chkSt v1t v1h t h) (fun _ _ _ => false) (fun _ _ => false) = true := by kernel_rfl
theorem t13b_run : (runK Tryz.prog tsL fsS hookC 50).2 [] 18 (sA (sA (sB c13))) v1t v1h (fun t h => chkSt u0t u0h t h) (fun _ _ _ => false) (fun _ _ => false) = true := by kernel_rfl
theorem u6_run : (runK Tryz.prog tsL fsS hookC 50).2 [] 18 body13 u6t u6h (fun _ _ => false) (fun j t h => Nat.beq 0 j && chkSt u6t u6h t h) (fun _ _ => false) = true := by kernel_rfl
theorem t13c_run : (runK Tryz.prog tsL fsS hookC 50).2 [] 18 (sA (sB (sB c13))) u6t u6h (fun t h => chkSt v6t v6h t h) (fun _ _ _ => false) (fun _ _ => false) = true := by kernel_rfl
theorem t4a_run : (runK Tryz.prog tsL fsS hookC 50).2 [] 33 (sA c4) .nil h0 (fun t h => chkSt x0t x0h t h) (fun _ _ _ => false) (fun _ _ => false) = true := by kernel_rfl
theorem t4b_run : (runK Tryz.prog tsL fsS hookC 5000).2 [] 33 (sA (sB c4)) x0t x0h (fun t h => chkSt s0t s0h t h) (fun _ _ _ => false) (fun _ _ => false) = true := by kernel_rfl
theorem t4c_run : (runK Tryz.prog tsL fsS hookC 50).2 [] 33 (sA (sB (sB c4))) s0t s0h (fun t h => chkSt x2t x2h t h) (fun _ _ _ => false) (fun _ _ => false) = true := by kernel_rfl
theorem t4e_run : (runK Tryz.prog tsL fsS hookC 50).2 [] 33 (sA (sB (sB (sB (sB c4))))) s2t s2h (fun t h => chkSt x5t x5h t h) (fun _ _ _ => false) (fun _ _ => false) = true := by kernel_rfl
/-- How the run of the acts is known to the piece that calls it. -/
noncomputable def fk13 : FunT := fun id args h k => bI (Nat.beq id 13) (bI (CV.sames args callArgs) (bI (subH s1h h) (k wEnd e13h) false) false) false
theorem t4d_run : opsK Tryz.prog tsL fk13 (opsIn (sA (sB (sB (sB c4))))) 33 (opsIn (sA (sB (sB (sB c4))))).toList x2t x2h (fun t h => chkSt s2t s2h t h) = true := by kernel_rfl
end Go.Proofs.YtpjgmeogkomhlaaGreat
