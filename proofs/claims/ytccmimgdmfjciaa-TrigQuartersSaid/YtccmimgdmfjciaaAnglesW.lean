/-
  TrigAngles: whatever numbers and angles (of their types), the law returns true and changes nothing that was there.
-/
import Derived.Test.YtccmimgdmfjciaaWj
namespace Go.Proofs.Ytccmimgdmfjciaa
open Go.RowKit
theorem clampN_in (z : Int) (h : -70368744177664 ≤ z ∧ z ≤ 70368744177663) : clampN z = z := by
  unfold clampN; rw [if_neg (by omega), if_neg (by omega)]
theorem atN_neg (y x : Int) (hy : -70368744177664 ≤ y ∧ y ≤ 70368744177663) (hx : -70368744177664 ≤ x ∧ x ≤ 70368744177663) (h : x < 0) : atN y x = (2147483648 + (atV (-x) (-y)).z % 4294967296) % 4294967296 := by
  unfold atN
  rw [clampN_in x hx, clampN_in y hy, if_neg (by omega), if_pos h]
theorem atN_pos (y x : Int) (hy : -70368744177664 ≤ y ∧ y ≤ 70368744177663) (hx : -70368744177664 ≤ x ∧ x ≤ 70368744177663) (h : 0 < x) : atN y x = (atV x y).z % 4294967296 := by
  unfold atN
  rw [clampN_in x hx, clampN_in y hy, if_neg (by omega), if_neg (by omega)]
theorem atN_turn (y x : Int) (hy : -70368744177663 < y ∧ y < 70368744177663) (hx : -70368744177663 < x ∧ x < 70368744177663) (h : x ≠ 0) : atN y x = (atN (-y) (-x) + 2147483648) % 4294967296 := by
  by_cases hn : x < 0
  · rw [atN_neg y x (by omega) (by omega) hn, atN_pos (-y) (-x) (by omega) (by omega) (by omega)]
    generalize (atV (-x) (-y)).z = z
    omega
  · rw [atN_pos y x (by omega) (by omega) (by omega), atN_neg (-y) (-x) (by omega) (by omega) (by omega), Int.neg_neg, Int.neg_neg]
    generalize (atV x y).z = z
    omega
theorem wrapD_ways (a b : Int) (ha : 0 ≤ a ∧ a ≤ 4294967295) : (wrapD a b = -wrapD b a ∨ wrapD a b = -2147483648) ∧ (b + wrapD a b % 4294967296) % 4294967296 = a ∧ -2147483648 ≤ wrapD a b ∧ wrapD a b ≤ 2147483647 ∧ -2147483648 ≤ wrapD b a ∧ wrapD b a ≤ 2147483647 := by
  unfold wrapD wrap32
  omega
theorem Below.snoc {B : Nat} {w W W' : World} (h : Hid (Below B w W ∧ B ≤ W.heap.size)) (hb : Below W.heap.size W W') : Hid (Below B w W' ∧ B ≤ W'.heap.size) :=
  Lib.hid ⟨h.out.1.trans (hb.mono h.out.2), Nat.le_trans h.out.2 hb.size⟩
set_option maxRecDepth 20000 in
set_option maxHeartbeats 2000000 in
theorem trigAngles_walk (y x a b : Int) (ha : 0 ≤ a ∧ a ≤ 4294967295) (w : World) :
    Calls Try.prog 5 #[.agg #[.int .i64 y, .int .i64 x, .int .u32 a, .int .u32 b]] w fun e w' => e = .returned (.bool true) ∧ Below w.heap.size w w' := by
  have B0 : Hid (Below w.heap.size w (w.alloc (.cells #[.int .i64 y, .int .i64 x, .int .u32 a, .int .u32 b] 35)) ∧ w.heap.size ≤ (w.alloc (.cells #[.int .i64 y, .int .i64 x, .int .u32 a, .int .u32 b] 35)).heap.size) :=
    Lib.hid ⟨(Below.refl _ _).alloc (Nat.le_refl _) _, by simp⟩
  obtain ⟨hw, hv, v1, v2, v3, v4⟩ := wrapD_ways a b ha
  have hv2 : ((b + wrapD a b) % 4294967296 == a) = true := by rw [beq_iff_eq]; omega
  have HW : Hid ((wrapD a b == wrap32 (-wrapD b a)) = true ∨ ((wrapD a b == wrap32 (-wrapD b a)) = false ∧ (wrapD a b == -2147483648) = true)) := by
    refine Lib.hid ?_
    rw [beq_iff_eq, beq_iff_eq, beq_eq_false_iff_ne]
    unfold wrap32
    omega
  clear ha hw hv v1 v2 v3 v4
  by_cases hin : (-70368744177663 < y ∧ y < 70368744177663) ∧ (-70368744177663 < x ∧ x < 70368744177663)
  · have C12 := fun W => Lib.hid (atan12 y x W)
    have D12 := fun W => Lib.hid (atan12 (-y) (-x) W)
    have d1 : decide (70368744177663 ≤ y) = false := decide_eq_false (by omega)
    have d2 : decide (y ≤ -70368744177663) = false := decide_eq_false (by omega)
    have d3 : decide (70368744177663 ≤ x) = false := decide_eq_false (by omega)
    have d4 : decide (x ≤ -70368744177663) = false := decide_eq_false (by omega)
    have hy1 := hin.1.1
    have hy2 := hin.1.2
    have hx1 := hin.2.1
    have hx2 := hin.2.2
    by_cases h0 : x = 0
    · have hb : (x == 0) = true := by rw [beq_iff_eq]; exact h0
      clear hin h0
      rcases HW.out with hE | ⟨hE, g1⟩
      · clear HW
        go_enter Try.func5, Try.ntmps5
        go_wp2_with (first
          | (go_at_call 9; refine (shown9 _).mono ?_; rintro e w1 ⟨rfl, h1⟩; have B0 := Below.snoc B0 h1; clear h1)
          | (go_at_call_of 12 (Value.int .i64 y); refine (C12 _).out.mono ?_; rintro e w1 ⟨rfl, h1⟩; have B0 := Below.snoc B0 h1; clear h1)
          | (go_at_call 12; refine (D12 _).out.mono ?_; rintro e w1 ⟨rfl, h1⟩; have B0 := Below.snoc B0 h1; clear h1)
          | (go_at_call 16; refine (wrap16 _ _ _).mono ?_; rintro e w1 ⟨rfl, rfl⟩))
        all_goals go_ret
        all_goals exact ⟨rfl, B0.out.1⟩
      · clear HW
        go_enter Try.func5, Try.ntmps5
        go_wp2_with (first
          | (go_at_call 9; refine (shown9 _).mono ?_; rintro e w1 ⟨rfl, h1⟩; have B0 := Below.snoc B0 h1; clear h1)
          | (go_at_call_of 12 (Value.int .i64 y); refine (C12 _).out.mono ?_; rintro e w1 ⟨rfl, h1⟩; have B0 := Below.snoc B0 h1; clear h1)
          | (go_at_call 12; refine (D12 _).out.mono ?_; rintro e w1 ⟨rfl, h1⟩; have B0 := Below.snoc B0 h1; clear h1)
          | (go_at_call 16; refine (wrap16 _ _ _).mono ?_; rintro e w1 ⟨rfl, rfl⟩))
        all_goals go_ret
        all_goals exact ⟨rfl, B0.out.1⟩
    · have hb : (x == 0) = false := by rw [beq_eq_false_iff_ne]; exact h0
      have ht : (atN y x == (atN (-y) (-x) + 2147483648) % 4294967296) = true := by rw [beq_iff_eq]; exact atN_turn y x hin.1 hin.2 h0
      clear hin h0
      rcases HW.out with hE | ⟨hE, g1⟩
      · clear HW
        go_enter Try.func5, Try.ntmps5
        go_wp2_with (first
          | (go_at_call 9; refine (shown9 _).mono ?_; rintro e w1 ⟨rfl, h1⟩; have B0 := Below.snoc B0 h1; clear h1)
          | (go_at_call_of 12 (Value.int .i64 y); refine (C12 _).out.mono ?_; rintro e w1 ⟨rfl, h1⟩; have B0 := Below.snoc B0 h1; clear h1)
          | (go_at_call 12; refine (D12 _).out.mono ?_; rintro e w1 ⟨rfl, h1⟩; have B0 := Below.snoc B0 h1; clear h1)
          | (go_at_call 16; refine (wrap16 _ _ _).mono ?_; rintro e w1 ⟨rfl, rfl⟩))
        all_goals go_ret
        all_goals exact ⟨rfl, B0.out.1⟩
      · clear HW
        go_enter Try.func5, Try.ntmps5
        go_wp2_with (first
          | (go_at_call 9; refine (shown9 _).mono ?_; rintro e w1 ⟨rfl, h1⟩; have B0 := Below.snoc B0 h1; clear h1)
          | (go_at_call_of 12 (Value.int .i64 y); refine (C12 _).out.mono ?_; rintro e w1 ⟨rfl, h1⟩; have B0 := Below.snoc B0 h1; clear h1)
          | (go_at_call 12; refine (D12 _).out.mono ?_; rintro e w1 ⟨rfl, h1⟩; have B0 := Below.snoc B0 h1; clear h1)
          | (go_at_call 16; refine (wrap16 _ _ _).mono ?_; rintro e w1 ⟨rfl, rfl⟩))
        all_goals go_ret
        all_goals exact ⟨rfl, B0.out.1⟩
  · have hout : 70368744177663 ≤ y ∨ y ≤ -70368744177663 ∨ 70368744177663 ≤ x ∨ x ≤ -70368744177663 := by omega
    clear hin HW hv2
    go_enter Try.func5, Try.ntmps5
    by_cases e1 : 70368744177663 ≤ y
    · have d1 : decide (70368744177663 ≤ y) = true := decide_eq_true e1
      clear hout
      go_wp2_with (go_at_call 9; refine (shown9 _).mono ?_; rintro e w1 ⟨rfl, h1⟩; have B0 := Below.snoc B0 h1; clear h1)
      go_ret
      exact ⟨rfl, B0.out.1⟩
    · have d1 : decide (70368744177663 ≤ y) = false := decide_eq_false e1
      by_cases e2 : y ≤ -70368744177663
      · have d2 : decide (y ≤ -70368744177663) = true := decide_eq_true e2
        clear hout
        go_wp2_with (go_at_call 9; refine (shown9 _).mono ?_; rintro e w1 ⟨rfl, h1⟩; have B0 := Below.snoc B0 h1; clear h1)
        go_ret
        exact ⟨rfl, B0.out.1⟩
      · have d2 : decide (y ≤ -70368744177663) = false := decide_eq_false e2
        by_cases e3 : 70368744177663 ≤ x
        · have d3 : decide (70368744177663 ≤ x) = true := decide_eq_true e3
          clear hout
          go_wp2_with (go_at_call 9; refine (shown9 _).mono ?_; rintro e w1 ⟨rfl, h1⟩; have B0 := Below.snoc B0 h1; clear h1)
          go_ret
          exact ⟨rfl, B0.out.1⟩
        · have d3 : decide (70368744177663 ≤ x) = false := decide_eq_false e3
          have d4 : decide (x ≤ -70368744177663) = true := decide_eq_true (by omega)
          clear hout
          go_wp2_with (go_at_call 9; refine (shown9 _).mono ?_; rintro e w1 ⟨rfl, h1⟩; have B0 := Below.snoc B0 h1; clear h1)
          go_ret
          exact ⟨rfl, B0.out.1⟩
end Go.Proofs.Ytccmimgdmfjciaa
