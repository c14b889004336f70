/-
  A new end, the program's: no conditions.
-/
import Derived.Test.YtoblckocmakakaaWa
namespace Go.Proofs.Ytoblckocmakakaa
open Go.RowKit
theorem new_yes (own : Int) (w : World) (h1 : 1 ≤ own) (h2 : own ≤ 4611686018427387904) : Calls Try.prog 11 #[.int .i64 own] w fun e w' => e = .returned (.tuple #[.agg #[.int .i64 own, .int .i64 0, .int .i64 0, .slice none 0 0, .int .i64 0], .int .i64 0]) ∧ Below w.heap.size w w' := by
  go_enter Try.func11, Try.ntmps11
  go_wp2
  exact bodyPost_ret (v := .tuple #[.agg #[.int .i64 own, .int .i64 0, .int .i64 0, .slice none 0 0, .int .i64 0], .int .i64 0]) (by simp [results, Try.results11, go_sem]) rfl ⟨rfl, (Below.refl _ _).alloc (Nat.le_refl _) _⟩
theorem new_no (own : Int) (w : World) (h : own < 1 ∨ 4611686018427387904 < own) : Calls Try.prog 11 #[.int .i64 own] w fun e w' => e = .returned (.tuple #[.agg #[.int .i64 0, .int .i64 0, .int .i64 0, .slice none 0 0, .int .i64 0], .int .i64 1]) ∧ Below w.heap.size w w' := by
  by_cases h1 : own < 1
  · have d : decide (own < 1) = true := decide_eq_true h1
    clear h
    go_enter Try.func11, Try.ntmps11
    go_wp2
    exact bodyPost_ret (v := .tuple #[.agg #[.int .i64 0, .int .i64 0, .int .i64 0, .slice none 0 0, .int .i64 0], .int .i64 1]) (by simp [results, Try.results11, go_sem]) rfl ⟨rfl, (Below.refl _ _).alloc (Nat.le_refl _) _⟩
  · have d : decide (own < 1) = false := decide_eq_false h1
    have d2 : decide (4611686018427387904 < own) = true := decide_eq_true (by omega)
    clear h
    go_enter Try.func11, Try.ntmps11
    go_wp2
    exact bodyPost_ret (v := .tuple #[.agg #[.int .i64 0, .int .i64 0, .int .i64 0, .slice none 0 0, .int .i64 0], .int .i64 1]) (by simp [results, Try.results11, go_sem]) rfl ⟨rfl, (Below.refl _ _).alloc (Nat.le_refl _) _⟩
end Go.Proofs.Ytoblckocmakakaa
