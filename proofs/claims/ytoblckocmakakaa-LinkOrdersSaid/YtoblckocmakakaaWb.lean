/-
  Whether a packet may be, whether an end is right: the program's; no conditions.
-/
import Derived.Test.YtoblckocmakakaaWa
namespace Go.Proofs.Ytoblckocmakakaa
open Go.RowKit
theorem in29 (n lo hi : Int) (w : World) : Calls Try.prog 29 #[.int .i64 n, .int .i64 lo, .int .i64 hi] w fun e w' => e = .returned (.bool (decide (lo ≤ n) && decide (n ≤ hi))) ∧ w = w' := by
  by_cases h : lo ≤ n
  · have d : decide (lo ≤ n) = true := decide_eq_true h
    rw [d]
    go_enter Try.func29, Try.ntmps29
    go_wp2
    go_ret
    exact ⟨rfl, rfl⟩
  · have d : decide (lo ≤ n) = false := decide_eq_false h
    rw [d]
    go_enter Try.func29, Try.ntmps29
    go_wp2
    go_ret
    exact ⟨rfl, rfl⟩
theorem in27 (n lo : Int) (w : World) : Calls Try.prog 27 #[.int .i64 n, .int .i64 lo] w fun e w' => e = .returned (.bool (decide (lo ≤ n) && decide (n ≤ 4611686018427387904))) ∧ w = w' := by
  by_cases h : lo ≤ n
  · have d : decide (lo ≤ n) = true := decide_eq_true h
    rw [d]
    go_enter Try.func27, Try.ntmps27
    go_wp2
    go_ret
    exact ⟨rfl, rfl⟩
  · have d : decide (lo ≤ n) = false := decide_eq_false h
    rw [d]
    go_enter Try.func27, Try.ntmps27
    go_wp2
    go_ret
    exact ⟨rfl, rfl⟩
/-- May a packet (five numbers and its words' number) be, at an end that is own, and knows other? -/
def mayB (own other fr to place : Int) (len : Nat) (wait : Int) : Bool :=
  (((decide ((if other < 1 then 1 else other) ≤ fr) && decide (fr ≤ 4611686018427387904)) && (to == 0 || to == own)) && (decide (0 ≤ place) && decide (place ≤ 4611686018427387896)) && (decide (0 ≤ wait) && decide (wait ≤ 4611686018427387904))) && decide (len ≤ 8)
set_option maxRecDepth 20000 in
set_option maxHeartbeats 2000000 in
theorem may26 (own other first : Int) (a : Option Addr) (n cap : Nat) (next fr to place : Int) (pa : Option Addr) (pn pcap : Nat) (wait : Int) (hpn : pn ≤ 9223372036854775807) (w : World) :
    Calls Try.prog 26 #[.agg #[.int .i64 own, .int .i64 other, .int .i64 first, .slice a n cap, .int .i64 next], .agg #[.int .i64 fr, .int .i64 to, .int .i64 place, .slice pa pn pcap, .int .i64 wait]] w fun e w' => e = .returned (.bool (mayB own other fr to place pn wait)) ∧ Below w.heap.size w w' := by
  unfold mayB
  have C1 := fun W => Lib.hid (in29 fr (if other < 1 then 1 else other) 4611686018427387904 W)
  have C2 := fun W => Lib.hid (in29 place 0 4611686018427387896 W)
  have C3 := fun W => Lib.hid (in29 wait 0 4611686018427387904 W)
  generalize hm : (if other < 1 then 1 else other) = m at *
  generalize (decide (m ≤ fr) && decide (fr ≤ 4611686018427387904)) = b1 at *
  generalize (decide (0 ≤ place) && decide (place ≤ 4611686018427387896)) = b2 at *
  generalize (decide (0 ≤ wait) && decide (wait ≤ 4611686018427387904)) = b3 at *
  cases b1 with
  | false =>
    go_enter Try.func26, Try.ntmps26
    go_wp2_with (first
      | (go_at_call_of 29 fr; refine (C1 _).out.mono ?_; rintro e w1 ⟨rfl, rfl⟩)
      | (go_at_call_of 29 place; refine (C2 _).out.mono ?_; rintro e w1 ⟨rfl, rfl⟩)
      | (go_at_call_of 29 wait; refine (C3 _).out.mono ?_; rintro e w1 ⟨rfl, rfl⟩))
    go_ret
    exact ⟨rfl, ((Below.refl _ _).alloc (Nat.le_refl _) _).alloc (by simp) _⟩
  | true =>
    cases h0 : to == 0 with
    | true =>
      cases b2 with
      | false =>
        go_enter Try.func26, Try.ntmps26
        go_wp2_with (first
          | (go_at_call_of 29 fr; refine (C1 _).out.mono ?_; rintro e w1 ⟨rfl, rfl⟩)
          | (go_at_call_of 29 place; refine (C2 _).out.mono ?_; rintro e w1 ⟨rfl, rfl⟩)
          | (go_at_call_of 29 wait; refine (C3 _).out.mono ?_; rintro e w1 ⟨rfl, rfl⟩))
        go_ret
        exact ⟨rfl, ((Below.refl _ _).alloc (Nat.le_refl _) _).alloc (by simp) _⟩
      | true =>
        cases b3 with
        | false =>
          go_enter Try.func26, Try.ntmps26
          go_wp2_with (first
            | (go_at_call_of 29 fr; refine (C1 _).out.mono ?_; rintro e w1 ⟨rfl, rfl⟩)
            | (go_at_call_of 29 place; refine (C2 _).out.mono ?_; rintro e w1 ⟨rfl, rfl⟩)
            | (go_at_call_of 29 wait; refine (C3 _).out.mono ?_; rintro e w1 ⟨rfl, rfl⟩))
          go_ret
          exact ⟨rfl, ((Below.refl _ _).alloc (Nat.le_refl _) _).alloc (by simp) _⟩
        | true =>
          by_cases hn : pn ≤ 8
          · have d : decide (pn ≤ 8) = true := decide_eq_true hn
            have d2 : decide ((pn : Int) ≤ 8) = true := decide_eq_true (by omega)
            rw [d]
            go_enter Try.func26, Try.ntmps26
            go_wp2_with (first
              | (go_at_call_of 29 fr; refine (C1 _).out.mono ?_; rintro e w1 ⟨rfl, rfl⟩)
              | (go_at_call_of 29 place; refine (C2 _).out.mono ?_; rintro e w1 ⟨rfl, rfl⟩)
              | (go_at_call_of 29 wait; refine (C3 _).out.mono ?_; rintro e w1 ⟨rfl, rfl⟩))
            go_ret
            exact ⟨rfl, ((Below.refl _ _).alloc (Nat.le_refl _) _).alloc (by simp) _⟩
          · have d : decide (pn ≤ 8) = false := decide_eq_false hn
            have d2 : decide ((pn : Int) ≤ 8) = false := decide_eq_false (by omega)
            rw [d]
            go_enter Try.func26, Try.ntmps26
            go_wp2_with (first
              | (go_at_call_of 29 fr; refine (C1 _).out.mono ?_; rintro e w1 ⟨rfl, rfl⟩)
              | (go_at_call_of 29 place; refine (C2 _).out.mono ?_; rintro e w1 ⟨rfl, rfl⟩)
              | (go_at_call_of 29 wait; refine (C3 _).out.mono ?_; rintro e w1 ⟨rfl, rfl⟩))
            go_ret
            exact ⟨rfl, ((Below.refl _ _).alloc (Nat.le_refl _) _).alloc (by simp) _⟩
    | false =>
      cases h1 : to == own with
      | true =>
        cases b2 with
        | false =>
          go_enter Try.func26, Try.ntmps26
          go_wp2_with (first
            | (go_at_call_of 29 fr; refine (C1 _).out.mono ?_; rintro e w1 ⟨rfl, rfl⟩)
            | (go_at_call_of 29 place; refine (C2 _).out.mono ?_; rintro e w1 ⟨rfl, rfl⟩)
            | (go_at_call_of 29 wait; refine (C3 _).out.mono ?_; rintro e w1 ⟨rfl, rfl⟩))
          go_ret
          exact ⟨rfl, ((Below.refl _ _).alloc (Nat.le_refl _) _).alloc (by simp) _⟩
        | true =>
          cases b3 with
          | false =>
            go_enter Try.func26, Try.ntmps26
            go_wp2_with (first
              | (go_at_call_of 29 fr; refine (C1 _).out.mono ?_; rintro e w1 ⟨rfl, rfl⟩)
              | (go_at_call_of 29 place; refine (C2 _).out.mono ?_; rintro e w1 ⟨rfl, rfl⟩)
              | (go_at_call_of 29 wait; refine (C3 _).out.mono ?_; rintro e w1 ⟨rfl, rfl⟩))
            go_ret
            exact ⟨rfl, ((Below.refl _ _).alloc (Nat.le_refl _) _).alloc (by simp) _⟩
          | true =>
            by_cases hn : pn ≤ 8
            · have d : decide (pn ≤ 8) = true := decide_eq_true hn
              have d2 : decide ((pn : Int) ≤ 8) = true := decide_eq_true (by omega)
              rw [d]
              go_enter Try.func26, Try.ntmps26
              go_wp2_with (first
                | (go_at_call_of 29 fr; refine (C1 _).out.mono ?_; rintro e w1 ⟨rfl, rfl⟩)
                | (go_at_call_of 29 place; refine (C2 _).out.mono ?_; rintro e w1 ⟨rfl, rfl⟩)
                | (go_at_call_of 29 wait; refine (C3 _).out.mono ?_; rintro e w1 ⟨rfl, rfl⟩))
              go_ret
              exact ⟨rfl, ((Below.refl _ _).alloc (Nat.le_refl _) _).alloc (by simp) _⟩
            · have d : decide (pn ≤ 8) = false := decide_eq_false hn
              have d2 : decide ((pn : Int) ≤ 8) = false := decide_eq_false (by omega)
              rw [d]
              go_enter Try.func26, Try.ntmps26
              go_wp2_with (first
                | (go_at_call_of 29 fr; refine (C1 _).out.mono ?_; rintro e w1 ⟨rfl, rfl⟩)
                | (go_at_call_of 29 place; refine (C2 _).out.mono ?_; rintro e w1 ⟨rfl, rfl⟩)
                | (go_at_call_of 29 wait; refine (C3 _).out.mono ?_; rintro e w1 ⟨rfl, rfl⟩))
              go_ret
              exact ⟨rfl, ((Below.refl _ _).alloc (Nat.le_refl _) _).alloc (by simp) _⟩
      | false =>
        go_enter Try.func26, Try.ntmps26
        go_wp2_with (first
          | (go_at_call_of 29 fr; refine (C1 _).out.mono ?_; rintro e w1 ⟨rfl, rfl⟩)
          | (go_at_call_of 29 place; refine (C2 _).out.mono ?_; rintro e w1 ⟨rfl, rfl⟩)
          | (go_at_call_of 29 wait; refine (C3 _).out.mono ?_; rintro e w1 ⟨rfl, rfl⟩))
        go_ret
        exact ⟨rfl, ((Below.refl _ _).alloc (Nat.le_refl _) _).alloc (by simp) _⟩
end Go.Proofs.Ytoblckocmakakaa
