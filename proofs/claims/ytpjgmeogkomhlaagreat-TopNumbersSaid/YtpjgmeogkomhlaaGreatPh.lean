/-
  What the reference asks of numbers and settings: the program's; no conditions.
  The numbers of the fixed point: the program's; no conditions.
  Products of the fixed point: what they yield lies in bounds.
  Sizes with signs: what is yielded lies in bounds. No conditions.
-/
import Derived.Test.YtpjgmeogkomhlaaGreatRows
import Derived.WalkKit
import Derived.Below
import Derived.Lib.Hide
import Derived.LoopN
import Derived.Outline
import Derived.Deep.RegionWith
import Derived.Deep.Cut
import Derived.WalkSmall
import Derived.WalkLawsBesides
namespace Go.Proofs.YtpjgmeogkomhlaaGreat
open Go.RowKit
def inB (n : Int) : Bool := decide (-70368744177664 ≤ n) && decide (n ≤ 70368744177663)
theorem in9 (n : Int) (w : World) : Calls Tryz.prog 9 #[.int .i64 n] w fun e w' => e = .returned (.bool (inB n)) ∧ w = w' := by
  unfold inB
  by_cases h : -70368744177664 ≤ n
  · have d : decide (-70368744177664 ≤ n) = true := decide_eq_true h
    rw [d]
    go_enter Tryz.func9, Tryz.ntmps9
    go_wp2
    go_ret
    exact ⟨rfl, rfl⟩
  · have d : decide (-70368744177664 ≤ n) = false := decide_eq_false h
    rw [d]
    go_enter Tryz.func9, Tryz.ntmps9
    go_wp2
    go_ret
    exact ⟨rfl, rfl⟩
def mayB (n : Int) : Bool := decide (1 ≤ n) && decide (n ≤ 17179869184)
/-- What a setting that may be is. -/
def May5P (w : World) (a b c d e f : Int) (e' : Ending) (w' : World) : Prop := Below w.heap.size w w' ∧ ∃ r, e' = .returned (.bool r) ∧ (r = true → mayB a = true ∧ mayB b = true ∧ mayB c = true ∧ mayB d = true ∧ mayB e = true ∧ mayB f = true)
theorem May5P.no (w w' : World) (a b c d e f : Int) (h : Below w.heap.size w w') : May5P w a b c d e f (.returned (.bool false)) w' := ⟨h, false, rfl, fun q => by cases q⟩
theorem mayB_of {n : Int} (h1 : ¬ n < 1) (h2 : ¬ n > 17179869184) : mayB n = true := by
  unfold mayB
  rw [decide_eq_true (by omega : 1 ≤ n), decide_eq_true (by omega : n ≤ 17179869184)]
  rfl
theorem May5P.yes (w w' : World) (a b c d e f : Int) (h : Below w.heap.size w w') (a1 : ¬ a < 1) (a2 : ¬ a > 17179869184) (b1 : ¬ b < 1) (b2 : ¬ b > 17179869184) (c1 : ¬ c < 1) (c2 : ¬ c > 17179869184) (d1 : ¬ d < 1) (d2 : ¬ d > 17179869184) (e1 : ¬ e < 1) (e2 : ¬ e > 17179869184) (f1 : ¬ f < 1) (f2 : ¬ f > 17179869184) : May5P w a b c d e f (.returned (.bool true)) w' :=
  ⟨h, true, rfl, fun _ => ⟨mayB_of a1 a2, mayB_of b1 b2, mayB_of c1 c2, mayB_of d1 d2, mayB_of e1 e2, mayB_of f1 f2⟩⟩
set_option maxRecDepth 20000 in
set_option maxHeartbeats 2000000 in
theorem may5 (a b c d e f : Int) (w : World) : Calls Tryz.prog 5 #[.agg #[.int .i64 a, .int .i64 b, .int .i64 c, .int .i64 d, .int .i64 e, .int .i64 f]] w (May5P w a b c d e f) := by
  go_enter Tryz.func5, Tryz.ntmps5
  go_wp2
  refine wp_loop_rounds 7 ?_
  rw [rounds_succ]
  by_cases h0 : a < 1
  · have d1 : decide (a < 1) = true := decide_eq_true h0
    go_wp2
    go_ret
    exact May5P.no _ _ _ _ _ _ _ _ (((Below.refl _ _).alloc (Nat.le_refl _) _).alloc (by simp) _)
  have d0 : decide (a < 1) = false := decide_eq_false h0
  by_cases h1 : a > 17179869184
  · have d2 : decide (a > 17179869184) = true := decide_eq_true h1
    go_wp2
    go_ret
    exact May5P.no _ _ _ _ _ _ _ _ (((Below.refl _ _).alloc (Nat.le_refl _) _).alloc (by simp) _)
  have d1 : decide (a > 17179869184) = false := decide_eq_false h1
  go_wp2
  rw [rounds_succ]
  by_cases h2 : b < 1
  · have d1 : decide (b < 1) = true := decide_eq_true h2
    go_wp2
    go_ret
    exact May5P.no _ _ _ _ _ _ _ _ (((Below.refl _ _).alloc (Nat.le_refl _) _).alloc (by simp) _)
  have d2 : decide (b < 1) = false := decide_eq_false h2
  by_cases h3 : b > 17179869184
  · have d2 : decide (b > 17179869184) = true := decide_eq_true h3
    go_wp2
    go_ret
    exact May5P.no _ _ _ _ _ _ _ _ (((Below.refl _ _).alloc (Nat.le_refl _) _).alloc (by simp) _)
  have d3 : decide (b > 17179869184) = false := decide_eq_false h3
  go_wp2
  rw [rounds_succ]
  by_cases h4 : c < 1
  · have d1 : decide (c < 1) = true := decide_eq_true h4
    go_wp2
    go_ret
    exact May5P.no _ _ _ _ _ _ _ _ (((Below.refl _ _).alloc (Nat.le_refl _) _).alloc (by simp) _)
  have d4 : decide (c < 1) = false := decide_eq_false h4
  by_cases h5 : c > 17179869184
  · have d2 : decide (c > 17179869184) = true := decide_eq_true h5
    go_wp2
    go_ret
    exact May5P.no _ _ _ _ _ _ _ _ (((Below.refl _ _).alloc (Nat.le_refl _) _).alloc (by simp) _)
  have d5 : decide (c > 17179869184) = false := decide_eq_false h5
  go_wp2
  rw [rounds_succ]
  by_cases h6 : d < 1
  · have d1 : decide (d < 1) = true := decide_eq_true h6
    go_wp2
    go_ret
    exact May5P.no _ _ _ _ _ _ _ _ (((Below.refl _ _).alloc (Nat.le_refl _) _).alloc (by simp) _)
  have d6 : decide (d < 1) = false := decide_eq_false h6
  by_cases h7 : d > 17179869184
  · have d2 : decide (d > 17179869184) = true := decide_eq_true h7
    go_wp2
    go_ret
    exact May5P.no _ _ _ _ _ _ _ _ (((Below.refl _ _).alloc (Nat.le_refl _) _).alloc (by simp) _)
  have d7 : decide (d > 17179869184) = false := decide_eq_false h7
  go_wp2
  rw [rounds_succ]
  by_cases h8 : e < 1
  · have d1 : decide (e < 1) = true := decide_eq_true h8
    go_wp2
    go_ret
    exact May5P.no _ _ _ _ _ _ _ _ (((Below.refl _ _).alloc (Nat.le_refl _) _).alloc (by simp) _)
  have d8 : decide (e < 1) = false := decide_eq_false h8
  by_cases h9 : e > 17179869184
  · have d2 : decide (e > 17179869184) = true := decide_eq_true h9
    go_wp2
    go_ret
    exact May5P.no _ _ _ _ _ _ _ _ (((Below.refl _ _).alloc (Nat.le_refl _) _).alloc (by simp) _)
  have d9 : decide (e > 17179869184) = false := decide_eq_false h9
  go_wp2
  rw [rounds_succ]
  by_cases h10 : f < 1
  · have d1 : decide (f < 1) = true := decide_eq_true h10
    go_wp2
    go_ret
    exact May5P.no _ _ _ _ _ _ _ _ (((Below.refl _ _).alloc (Nat.le_refl _) _).alloc (by simp) _)
  have d10 : decide (f < 1) = false := decide_eq_false h10
  by_cases h11 : f > 17179869184
  · have d2 : decide (f > 17179869184) = true := decide_eq_true h11
    go_wp2
    go_ret
    exact May5P.no _ _ _ _ _ _ _ _ (((Below.refl _ _).alloc (Nat.le_refl _) _).alloc (by simp) _)
  have d11 : decide (f > 17179869184) = false := decide_eq_false h11
  go_wp2
  rw [rounds_succ]
  go_wp2
  go_ret
  exact May5P.yes _ _ _ _ _ _ _ _ (((Below.refl _ _).alloc (Nat.le_refl _) _).alloc (by simp) _) (by omega) (by omega) (by omega) (by omega) (by omega) (by omega) (by omega) (by omega) (by omega) (by omega) (by omega) (by omega)
end Go.Proofs.YtpjgmeogkomhlaaGreat
namespace Go.Proofs.YtpjgmeogkomhlaaGreat
open Go.RowKit
def clampN (a : Int) : Int := if a > 70368744177663 then 70368744177663 else if a < -70368744177664 then -70368744177664 else a
theorem clampN_rng (a : Int) : -70368744177664 ≤ clampN a ∧ clampN a ≤ 70368744177663 := by unfold clampN; split <;> (try split) <;> omega
theorem clamp56 (a : Int) (w : World) : Calls Tryz.prog 56 #[.int .i64 a] w fun e w' => e = .returned (.tuple #[.int .i64 (clampN a), .bool (clampN a != a)]) ∧ w = w' := by
  have h : (if (if a < -70368744177664 then -70368744177664 else a) > 70368744177663 then 70368744177663 else (if a < -70368744177664 then -70368744177664 else a)) = clampN a := by
    unfold clampN; split <;> split <;> (try split) <;> omega
  have H := Lib.hid (show ∀ b, (b = clampN a) → (b != a) = (clampN a != a) from fun b e => by rw [e])
  unfold clampN
  by_cases h1 : a > 70368744177663
  · rw [if_pos h1]
    have e1 : (if a < -70368744177664 then -70368744177664 else a) = a := if_neg (by omega)
    clear h H
    go_enter Tryz.func56, Tryz.ntmps56
    go_wp2
    exact bodyPost_ret (v := .tuple #[.int .i64 70368744177663, .bool (70368744177663 != a)]) (by simp [results, Tryz.results56, go_sem]) rfl ⟨rfl, rfl⟩
  · rw [if_neg h1]
    by_cases h2 : a < -70368744177664
    · rw [if_pos h2]
      have e1 : (if a < -70368744177664 then -70368744177664 else a) = -70368744177664 := if_pos h2
      clear h H
      go_enter Tryz.func56, Tryz.ntmps56
      go_wp2
      exact bodyPost_ret (v := .tuple #[.int .i64 (-70368744177664), .bool (-70368744177664 != a)]) (by simp [results, Tryz.results56, go_sem]) rfl ⟨rfl, rfl⟩
    · rw [if_neg h2, bne_self_eq_false]
      have e1 : (if a < -70368744177664 then -70368744177664 else a) = a := if_neg h2
      clear h H
      go_enter Tryz.func56, Tryz.ntmps56
      go_wp2
      exact bodyPost_ret (v := .tuple #[.int .i64 a, .bool false]) (by simp [results, Tryz.results56, go_sem]) rfl ⟨rfl, rfl⟩
theorem both65 (a b : Int) (w : World) : Calls Tryz.prog 65 #[.int .i64 a, .int .i64 b] w fun e w' => e = .returned (.tuple #[.int .i64 (clampN a), .int .i64 (clampN b), .bool ((clampN a != a) || (clampN b != b))]) ∧ w = w' := by
  have C1 := fun W => Lib.hid (clamp56 a W)
  have C2 := fun W => Lib.hid (clamp56 b W)
  generalize (clampN a != a) = x at *
  generalize (clampN b != b) = y at *
  generalize clampN a = u at *
  generalize clampN b = v at *
  cases x with
  | true =>
    go_enter Tryz.func65, Tryz.ntmps65
    go_wp2_with (first
      | (go_at_call_of 56 a; refine (C1 _).out.mono ?_; rintro e w1 ⟨rfl, rfl⟩)
      | (go_at_call_of 56 b; refine (C2 _).out.mono ?_; rintro e w1 ⟨rfl, rfl⟩))
    exact bodyPost_ret (v := .tuple #[.int .i64 u, .int .i64 v, .bool true]) (by simp [results, Tryz.results65, go_sem]) rfl ⟨rfl, rfl⟩
  | false =>
    go_enter Tryz.func65, Tryz.ntmps65
    go_wp2_with (first
      | (go_at_call_of 56 a; refine (C1 _).out.mono ?_; rintro e w1 ⟨rfl, rfl⟩)
      | (go_at_call_of 56 b; refine (C2 _).out.mono ?_; rintro e w1 ⟨rfl, rfl⟩))
    exact bodyPost_ret (v := .tuple #[.int .i64 u, .int .i64 v, .bool y]) (by simp [results, Tryz.results65, go_sem]) rfl ⟨by simp, rfl⟩
theorem add35 (a b : Int) (w : World) : Calls Tryz.prog 35 #[.int .i64 a, .int .i64 b] w fun e w' => e = .returned (.tuple #[.int .i64 (clampN (clampN a + clampN b)), .bool (((clampN a != a) || (clampN b != b)) || (clampN (clampN a + clampN b) != clampN a + clampN b))]) ∧ w = w' := by
  have C1 := fun W => Lib.hid (both65 a b W)
  have C2 := fun W => Lib.hid (clamp56 (clampN a + clampN b) W)
  have hw : IntKind.i64.wrap (clampN a + clampN b) = clampN a + clampN b := by
    have h1 := clampN_rng a
    have h2 := clampN_rng b
    rw [IntKind.wrap_i64]
    omega
  generalize ((clampN a != a) || (clampN b != b)) = x at *
  generalize clampN a = u at *
  generalize clampN b = v at *
  generalize (clampN (u + v) != u + v) = y at *
  generalize clampN (u + v) = q at *
  cases x with
  | true =>
    go_enter Tryz.func35, Tryz.ntmps35
    go_wp2_with (first
      | (go_at_call_of 65 a; refine (C1 _).out.mono ?_; rintro e w1 ⟨rfl, rfl⟩)
      | (go_at_call 56; refine (C2 _).out.mono ?_; rintro e w1 ⟨rfl, rfl⟩))
    exact bodyPost_ret (v := .tuple #[.int .i64 q, .bool true]) (by simp [results, Tryz.results35, go_sem]) rfl ⟨rfl, rfl⟩
  | false =>
    go_enter Tryz.func35, Tryz.ntmps35
    go_wp2_with (first
      | (go_at_call_of 65 a; refine (C1 _).out.mono ?_; rintro e w1 ⟨rfl, rfl⟩)
      | (go_at_call 56; refine (C2 _).out.mono ?_; rintro e w1 ⟨rfl, rfl⟩))
    exact bodyPost_ret (v := .tuple #[.int .i64 q, .bool y]) (by simp [results, Tryz.results35, go_sem]) rfl ⟨by simp, rfl⟩
theorem sub31 (a b : Int) (w : World) : Calls Tryz.prog 31 #[.int .i64 a, .int .i64 b] w fun e w' => e = .returned (.tuple #[.int .i64 (clampN (clampN a - clampN b)), .bool (((clampN a != a) || (clampN b != b)) || (clampN (clampN a - clampN b) != clampN a - clampN b))]) ∧ w = w' := by
  have C1 := fun W => Lib.hid (both65 a b W)
  have C2 := fun W => Lib.hid (clamp56 (clampN a - clampN b) W)
  have hw : IntKind.i64.wrap (clampN a - clampN b) = clampN a - clampN b := by
    have h1 := clampN_rng a
    have h2 := clampN_rng b
    rw [IntKind.wrap_i64]
    omega
  generalize ((clampN a != a) || (clampN b != b)) = x at *
  generalize clampN a = u at *
  generalize clampN b = v at *
  generalize (clampN (u - v) != u - v) = y at *
  generalize clampN (u - v) = q at *
  cases x with
  | true =>
    go_enter Tryz.func31, Tryz.ntmps31
    go_wp2_with (first
      | (go_at_call_of 65 a; refine (C1 _).out.mono ?_; rintro e w1 ⟨rfl, rfl⟩)
      | (go_at_call 56; refine (C2 _).out.mono ?_; rintro e w1 ⟨rfl, rfl⟩))
    exact bodyPost_ret (v := .tuple #[.int .i64 q, .bool true]) (by simp [results, Tryz.results31, go_sem]) rfl ⟨rfl, rfl⟩
  | false =>
    go_enter Tryz.func31, Tryz.ntmps31
    go_wp2_with (first
      | (go_at_call_of 65 a; refine (C1 _).out.mono ?_; rintro e w1 ⟨rfl, rfl⟩)
      | (go_at_call 56; refine (C2 _).out.mono ?_; rintro e w1 ⟨rfl, rfl⟩))
    exact bodyPost_ret (v := .tuple #[.int .i64 q, .bool y]) (by simp [results, Tryz.results31, go_sem]) rfl ⟨by simp, rfl⟩
end Go.Proofs.YtpjgmeogkomhlaaGreat
namespace Go.Proofs.YtpjgmeogkomhlaaGreat
open Go.RowKit
/-- Two words are yielded. -/
def Words2 (w : World) (e : Ending) (w' : World) : Prop := (∃ h l : Int, e = .returned (.tuple #[.int .u64 h, .int .u64 l])) ∧ w = w'
theorem Words2.of (w : World) (h l : Int) : Words2 w (.returned (.tuple #[.int .u64 h, .int .u64 l])) w := ⟨⟨h, l, rfl⟩, rfl⟩
theorem mul64 (x y : Int) (w : World) : Calls Tryz.prog 69 #[.int .u64 x, .int .u64 y] w (Words2 w) := by
  go_enter Tryz.func69, Tryz.ntmps69
  go_wp2
  exact bodyPost_ret (by simp [results, Tryz.results69, go_sem]; exact ⟨rfl, rfl⟩) rfl (Words2.of _ _ _)
/-- A word is yielded. -/
def Word1 (w : World) (e : Ending) (w' : World) : Prop := (∃ n : Int, e = .returned (.int .u64 n)) ∧ w = w'
theorem Word1.of (w : World) (n : Int) : Word1 w (.returned (.int .u64 n)) w := ⟨⟨n, rfl⟩, rfl⟩
theorem size70 (a : Int) (w : World) : Calls Tryz.prog 70 #[.int .i64 a] w (Word1 w) := by
  by_cases h : a < 0
  · have d : decide (a < 0) = true := decide_eq_true h
    go_enter Tryz.func70, Tryz.ntmps70
    go_wp2
    exact bodyPost_ret (by simp [results, Tryz.results70, go_sem]; rfl) rfl (Word1.of _ _)
  · have d : decide (a < 0) = false := decide_eq_false h
    go_enter Tryz.func70, Tryz.ntmps70
    go_wp2
    exact bodyPost_ret (by simp [results, Tryz.results70, go_sem]; rfl) rfl (Word1.of _ _)
end Go.Proofs.YtpjgmeogkomhlaaGreat
namespace Go.Proofs.YtpjgmeogkomhlaaGreat
open Go.RowKit
/-- A number in bounds, and a truth. -/
def Bnd (w : World) (e : Ending) (w' : World) : Prop := (∃ (q : Int) (x : Bool), e = .returned (.tuple #[.int .i64 q, .bool x]) ∧ -70368744177664 ≤ q ∧ q ≤ 70368744177663) ∧ Below w.heap.size w w'
theorem Bnd.of {w w' : World} (n : Int) (x : Bool) (h : Below w.heap.size w w') : Bnd w (.returned (.tuple #[.int .i64 (clampN n), .bool x])) w' := ⟨⟨_, _, rfl, (clampN_rng n).1, (clampN_rng n).2⟩, h⟩
set_option maxHeartbeats 1000000 in
theorem signed71 (h l : Int) (b : Bool) (w : World) : Calls Tryz.prog 71 #[.int .u64 h, .int .u64 l, .bool b] w (Bnd w) := by
  cases b with
  | false =>
    cases d1 : (h != 0) with
    | true =>
      go_enter Tryz.func71, Tryz.ntmps71
      go_wp2_with (first | (go_at_call 56; refine (clamp56 _ _).mono ?_; rintro e w1 ⟨rfl, rfl⟩) | go_in)
      exact bodyPost_ret (by simp [results, Tryz.results71, go_sem]; exact ⟨rfl, rfl⟩) rfl (Bnd.of _ _ ((Below.refl _ _).alloc (Nat.le_refl _) _))
    | false =>
      by_cases h2 : l > 70368744177664
      · have d2 : decide (l > 70368744177664) = true := decide_eq_true h2
        go_enter Tryz.func71, Tryz.ntmps71
        go_wp2_with (first | (go_at_call 56; refine (clamp56 _ _).mono ?_; rintro e w1 ⟨rfl, rfl⟩) | go_in)
        exact bodyPost_ret (by simp [results, Tryz.results71, go_sem]; exact ⟨rfl, rfl⟩) rfl (Bnd.of _ _ ((Below.refl _ _).alloc (Nat.le_refl _) _))
      · have d2 : decide (l > 70368744177664) = false := decide_eq_false h2
        go_enter Tryz.func71, Tryz.ntmps71
        go_wp2_with (first | (go_at_call 56; refine (clamp56 _ _).mono ?_; rintro e w1 ⟨rfl, rfl⟩) | go_in)
        exact bodyPost_ret (by simp [results, Tryz.results71, go_sem]; exact ⟨rfl, rfl⟩) rfl (Bnd.of _ _ ((Below.refl _ _).alloc (Nat.le_refl _) _))
  | true =>
    cases d1 : (h != 0) with
    | true =>
      go_enter Tryz.func71, Tryz.ntmps71
      go_wp2_with (first | (go_at_call 56; refine (clamp56 _ _).mono ?_; rintro e w1 ⟨rfl, rfl⟩) | go_in)
      exact bodyPost_ret (by simp [results, Tryz.results71, go_sem]; exact ⟨rfl, rfl⟩) rfl (Bnd.of _ _ ((Below.refl _ _).alloc (Nat.le_refl _) _))
    | false =>
      by_cases h2 : l > 70368744177664
      · have d2 : decide (l > 70368744177664) = true := decide_eq_true h2
        go_enter Tryz.func71, Tryz.ntmps71
        go_wp2_with (first | (go_at_call 56; refine (clamp56 _ _).mono ?_; rintro e w1 ⟨rfl, rfl⟩) | go_in)
        exact bodyPost_ret (by simp [results, Tryz.results71, go_sem]; exact ⟨rfl, rfl⟩) rfl (Bnd.of _ _ ((Below.refl _ _).alloc (Nat.le_refl _) _))
      · have d2 : decide (l > 70368744177664) = false := decide_eq_false h2
        go_enter Tryz.func71, Tryz.ntmps71
        go_wp2_with (first | (go_at_call 56; refine (clamp56 _ _).mono ?_; rintro e w1 ⟨rfl, rfl⟩) | go_in)
        exact bodyPost_ret (by simp [results, Tryz.results71, go_sem]; exact ⟨rfl, rfl⟩) rfl (Bnd.of _ _ ((Below.refl _ _).alloc (Nat.le_refl _) _))
end Go.Proofs.YtpjgmeogkomhlaaGreat
