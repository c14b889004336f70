/-
  The filter's two steps, run on whatever numbers: what they yield is even, and in bounds. No conditions but those named.
-/
import Derived.Test.YtpjgmeogkomhlaaGreatHo
namespace Go.Proofs.YtpjgmeogkomhlaaGreat
open Go.RowKit
/-- Numbers that are alike, up to the order of a sum. -/
def eqv : IE → IE → Bool
  | .half a, .half b => eqv a b
  | .conv k a, .conv l b => k == l && eqv a b
  | .add k a b, .add l c d => k == l && (a.same c && b.same d || a.same d && b.same c)
  | a, b => a.same b
theorem eqv_ok {V : Va} : ∀ {a b : IE} {x y : Int}, eqv a b = true → a.den V = some x → b.den V = some y → x = y
  | a, b, x, y, e, h1, h2 => by
    unfold eqv at e
    split at e
    · rename_i a' b'
      simp only [IE.den] at h1 h2
      split at h1
      · rename_i m q1
        split at h2
        · rename_i n q2
          cases h1
          cases h2
          rw [eqv_ok e q1 q2]
        · cases h2
      · cases h1
    · rename_i k a' l b'
      simp only [Bool.and_eq_true, beq_iff_eq] at e
      obtain ⟨rfl, e⟩ := e
      simp only [IE.den] at h1 h2
      split at h1
      · rename_i m q1
        split at h2
        · rename_i n q2
          cases h1
          cases h2
          rw [eqv_ok e q1 q2]
        · cases h2
      · cases h1
    · rename_i k a' b' l c' d'
      simp only [Bool.and_eq_true, Bool.or_eq_true, beq_iff_eq] at e
      obtain ⟨rfl, e⟩ := e
      rcases e with e | e
      · rw [IE.same_eq _ _ e.1, IE.same_eq _ _ e.2] at h1
        rw [h1] at h2
        exact Option.some.inj h2
      · rw [IE.same_eq _ _ e.1, IE.same_eq _ _ e.2] at h1
        simp only [IE.den] at h1 h2
        split at h1
        · rename_i m n q1 q2
          rw [q1, q2] at h2
          cases h1
          cases h2
          rw [Int.add_comm]
        · cases h1
    · rw [IE.same_eq _ _ e, h2] at h1
      exact (Option.some.inj h1).symm
/-- Cells of a matrix of three rows that is even, and not below 0 on its diagonal. -/
def evenC : List CV → Bool
  | [.int _ a, .int _ b, .int _ c, .int _ d, .int _ e, .int _ f, .int _ g, .int _ h, .int _ i] => eqv b d && eqv c g && eqv f h && inBs 0 topQ [.int .i64 a, .int .i64 e, .int .i64 i]
  | _ => false
def litOf (n : Int) : CV → Bool
  | .int .i64 (.lit m) => m == n
  | _ => false
/-- A row of the run's own, within bounds. -/
def rowC (h : CH) (n : Nat) : CV → Option (Nat × List CV)
  | .slice (some (b, 0)) 1 m _ => match Nat.beq m n with
    | true => match h.t.get b with
      | some (.cells cs false) => match inBs lowQ topQ cs && Nat.beq cs.length n with
        | true => some (b, cs)
        | false => none
      | _ => none
    | false => none
  | _ => none
/-- A new track that is right. -/
def trkC (c : CV) (h : CH) : Bool := match c with
  | .agg [a, b, x, d, e, p] => litOf 3 a && litOf 1 b && litOf 3 d && litOf 3 e && (match rowC h 3 x with
    | some (bx, _) => match rowC h 9 p with
      | some (bp, ps) => evenC ps && !(Nat.beq bx bp)
      | none => false
    | none => false)
  | _ => false
def trkA (b : Nat) : CV := .agg [ii 3, ii 1, .slice (some (b, 0)) 1 3 (.var b 0), ii 3, ii 3, .slice (some (b + 1, 0)) 1 9 (.var (b + 1) 0)]
def matA (r c b : Nat) : CV := .agg [ii r, ii c, .slice (some (b, 0)) 1 (r * c) (.var b 0)]
/-- Two tracks' rows and matrices, to read. -/
def h34 : CH := ⟨(((Tr.nil.set 0 (.cells (varC 3 0) true)).set 1 (.cells (varC 9 3) true)).set 2 (.cells (varC 9 12) true)).set 3 (.cells (varC 9 21) true), 4, 30, 0, 4, []⟩
def chk34 (c : CV) (h : CH) : Bool := match c with
  | .tup [t, .bool _, z] => trkC t h && litOf 0 z
  | _ => false
set_option maxRecDepth 1000000 in
theorem run34 : (runL Tryz.prog tsL fsS hookQ 5000).1 34 [trkA 0, matA 3 3 2, matA 3 3 3] h34 chk34 = true := by kernel_rfl
def h78 : CH := ⟨((Tr.nil.set 0 (.cells (varC 3 0) true)).set 1 (.cells (varC 9 3) true)).set 2 (.cells (varC 3 12) true), 3, 18, 0, 3, []⟩
def chk78 (c : CV) (h : CH) : Bool := match c with
  | .tup [t, .bool (.lit true), .bool _, z] => trkC t h && litOf 0 z
  | .tup [t, .bool (.lit false), .bool _, z] => t.same (trkA 0) && litOf 0 z
  | _ => false
set_option maxRecDepth 1000000 in
theorem run78 : (runL Tryz.prog tsL fsS hookQ 5000).1 78 [trkA 0, matA 1 3 2, .int .i64 (.var 15), .int .i64 (.bnd 16 1 topQ), .int .i64 (.var 17)] h78 chk78 = true := by kernel_rfl
end Go.Proofs.YtpjgmeogkomhlaaGreat
