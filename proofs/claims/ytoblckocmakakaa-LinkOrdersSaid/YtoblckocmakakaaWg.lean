/-
  Which ends are right: the program's word and the reference's; no conditions.
-/
import Derived.Test.YtoblckocmakakaaWb
namespace Go.Proofs.Ytoblckocmakakaa
open Go.RowKit
def inR (lo n : Int) : Bool := decide (lo ≤ n) && decide (n ≤ 4611686018427387904)
/-- Is an end (four numbers and its row's length) right? -/
def rightB (own other first : Int) (len : Nat) (next : Int) : Bool := (((inR 1 own && inR 0 other) && inR 0 first) && inR 0 next) && decide (len ≤ 8)
set_option maxRecDepth 20000 in
set_option maxHeartbeats 2000000 in
theorem right18 (own other first : Int) (a : Option Addr) (n cap : Nat) (next : Int) (hn : n ≤ 9223372036854775807) (w : World) :
    Calls Try.prog 18 #[.agg #[.int .i64 own, .int .i64 other, .int .i64 first, .slice a n cap, .int .i64 next]] w fun e w' => e = .returned (.bool (rightB own other first n next)) ∧ Below w.heap.size w w' := by
  unfold rightB
  have C1 : ∀ W, Hid (Calls Try.prog 27 #[.int .i64 own, .int .i64 1] W fun e W' => e = .returned (.bool (inR 1 own)) ∧ W = W') := fun W => Lib.hid (in27 own 1 W)
  have C2 : ∀ W, Hid (Calls Try.prog 27 #[.int .i64 other, .int .i64 0] W fun e W' => e = .returned (.bool (inR 0 other)) ∧ W = W') := fun W => Lib.hid (in27 other 0 W)
  have C3 : ∀ W, Hid (Calls Try.prog 27 #[.int .i64 first, .int .i64 0] W fun e W' => e = .returned (.bool (inR 0 first)) ∧ W = W') := fun W => Lib.hid (in27 first 0 W)
  have C4 : ∀ W, Hid (Calls Try.prog 27 #[.int .i64 next, .int .i64 0] W fun e W' => e = .returned (.bool (inR 0 next)) ∧ W = W') := fun W => Lib.hid (in27 next 0 W)
  generalize inR 1 own = b1 at *
  generalize inR 0 other = b2 at *
  generalize inR 0 first = b3 at *
  generalize inR 0 next = b4 at *
  cases b1 with
  | false =>
    go_enter Try.func18, Try.ntmps18
    go_wp2_with (first
      | (go_at_call_of 27 own; refine (C1 _).out.mono ?_; rintro e w1 ⟨rfl, rfl⟩)
      | (go_at_call_of 27 other; refine (C2 _).out.mono ?_; rintro e w1 ⟨rfl, rfl⟩)
      | (go_at_call_of 27 first; refine (C3 _).out.mono ?_; rintro e w1 ⟨rfl, rfl⟩)
      | (go_at_call_of 27 next; refine (C4 _).out.mono ?_; rintro e w1 ⟨rfl, rfl⟩))
    go_ret
    exact ⟨rfl, (Below.refl _ _).alloc (Nat.le_refl _) _⟩
  | true =>
    cases b2 with
    | false =>
      go_enter Try.func18, Try.ntmps18
      go_wp2_with (first
        | (go_at_call_of 27 own; refine (C1 _).out.mono ?_; rintro e w1 ⟨rfl, rfl⟩)
        | (go_at_call_of 27 other; refine (C2 _).out.mono ?_; rintro e w1 ⟨rfl, rfl⟩)
        | (go_at_call_of 27 first; refine (C3 _).out.mono ?_; rintro e w1 ⟨rfl, rfl⟩)
        | (go_at_call_of 27 next; refine (C4 _).out.mono ?_; rintro e w1 ⟨rfl, rfl⟩))
      go_ret
      exact ⟨rfl, (Below.refl _ _).alloc (Nat.le_refl _) _⟩
    | true =>
      cases b3 with
      | false =>
        go_enter Try.func18, Try.ntmps18
        go_wp2_with (first
          | (go_at_call_of 27 own; refine (C1 _).out.mono ?_; rintro e w1 ⟨rfl, rfl⟩)
          | (go_at_call_of 27 other; refine (C2 _).out.mono ?_; rintro e w1 ⟨rfl, rfl⟩)
          | (go_at_call_of 27 first; refine (C3 _).out.mono ?_; rintro e w1 ⟨rfl, rfl⟩)
          | (go_at_call_of 27 next; refine (C4 _).out.mono ?_; rintro e w1 ⟨rfl, rfl⟩))
        go_ret
        exact ⟨rfl, (Below.refl _ _).alloc (Nat.le_refl _) _⟩
      | true =>
        cases b4 with
        | false =>
          go_enter Try.func18, Try.ntmps18
          go_wp2_with (first
            | (go_at_call_of 27 own; refine (C1 _).out.mono ?_; rintro e w1 ⟨rfl, rfl⟩)
            | (go_at_call_of 27 other; refine (C2 _).out.mono ?_; rintro e w1 ⟨rfl, rfl⟩)
            | (go_at_call_of 27 first; refine (C3 _).out.mono ?_; rintro e w1 ⟨rfl, rfl⟩)
            | (go_at_call_of 27 next; refine (C4 _).out.mono ?_; rintro e w1 ⟨rfl, rfl⟩))
          go_ret
          exact ⟨rfl, (Below.refl _ _).alloc (Nat.le_refl _) _⟩
        | true =>
          by_cases h : n ≤ 8
          · have d : decide (n ≤ 8) = true := decide_eq_true h
            have d2 : decide ((n : Int) ≤ 8) = true := decide_eq_true (by omega)
            rw [d]
            clear d
            go_enter Try.func18, Try.ntmps18
            go_wp2_with (first
              | (go_at_call_of 27 own; refine (C1 _).out.mono ?_; rintro e w1 ⟨rfl, rfl⟩)
              | (go_at_call_of 27 other; refine (C2 _).out.mono ?_; rintro e w1 ⟨rfl, rfl⟩)
              | (go_at_call_of 27 first; refine (C3 _).out.mono ?_; rintro e w1 ⟨rfl, rfl⟩)
              | (go_at_call_of 27 next; refine (C4 _).out.mono ?_; rintro e w1 ⟨rfl, rfl⟩))
            go_ret
            exact ⟨rfl, (Below.refl _ _).alloc (Nat.le_refl _) _⟩
          · have d : decide (n ≤ 8) = false := decide_eq_false h
            have d2 : decide ((n : Int) ≤ 8) = false := decide_eq_false (by omega)
            rw [d]
            clear d
            go_enter Try.func18, Try.ntmps18
            go_wp2_with (first
              | (go_at_call_of 27 own; refine (C1 _).out.mono ?_; rintro e w1 ⟨rfl, rfl⟩)
              | (go_at_call_of 27 other; refine (C2 _).out.mono ?_; rintro e w1 ⟨rfl, rfl⟩)
              | (go_at_call_of 27 first; refine (C3 _).out.mono ?_; rintro e w1 ⟨rfl, rfl⟩)
              | (go_at_call_of 27 next; refine (C4 _).out.mono ?_; rintro e w1 ⟨rfl, rfl⟩))
            go_ret
            exact ⟨rfl, (Below.refl _ _).alloc (Nat.le_refl _) _⟩
theorem rightB_iff {own other first : Int} {len : Nat} {next : Int} : rightB own other first len next = true ↔ ((((((((1 ≤ own ∧ own ≤ 4611686018427387904) ∧ 0 ≤ other) ∧ other ≤ 4611686018427387904) ∧ 0 ≤ first) ∧ first ≤ 4611686018427387904) ∧ 0 ≤ next) ∧ next ≤ 4611686018427387904) ∧ len ≤ 8) := by
  unfold rightB inR
  simp only [Bool.and_eq_true, decide_eq_true_eq]
  omega
theorem ret_bool {b c : Bool} (h : b = c) : Ending.returned (.bool b) = Ending.returned (.bool c) := by rw [h]
set_option maxRecDepth 20000 in
set_option maxHeartbeats 2000000 in
theorem right16 (own other first : Int) (a : Option Addr) (n cap : Nat) (next : Int) (hn : n ≤ 9223372036854775807) (w : World) :
    Calls Try.prog 16 #[.agg #[.int .i64 own, .int .i64 other, .int .i64 first, .slice a n cap, .int .i64 next]] w fun e w' => e = .returned (.bool (rightB own other first n next)) ∧ Below w.heap.size w w' := by
  go_enter Try.func16, Try.ntmps16
  go_wp2
  all_goals go_ret
  all_goals refine ⟨ret_bool ?_, (Below.refl _ _).alloc (Nat.le_refl _) _⟩
  all_goals rw [Bool.eq_iff_iff, rightB_iff]
  all_goals constructor
  all_goals intro h
  all_goals first
    | exact absurd h Bool.false_ne_true
    | (simp only [decide_eq_true_eq] at h ⊢; omega)
    | omega
end Go.Proofs.Ytoblckocmakakaa
