/-
  Atan, the program's: what it answers, in plain numbers: no conditions but those named.
-/
import Derived.Test.YtccmimgdmfjciaaWd
import Derived.Test.YtccmimgdmfjciaaWe
namespace Go.Proofs.Ytccmimgdmfjciaa
open Go.RowKit
def atV (x y : Int) : V := run upA ⟨x * 4096, y * 4096, 0⟩ 30
def atN (y x : Int) : Int :=
  if clampN x = 0 ∧ clampN y = 0 then 0
  else if clampN x < 0 then (2147483648 + (atV (-clampN x) (-clampN y)).z % 4294967296) % 4294967296
  else (atV (clampN x) (clampN y)).z % 4294967296
theorem turnedA (x y : Int) (w : World) (hx : -70368744177664 ≤ x ∧ x ≤ 70368744177664) (hy : -70368744177664 ≤ y ∧ y ≤ 70368744177664) : Calls Try.prog 19 #[.int .i64 (x * 4096), .int .i64 (y * 4096), .int .i32 0, .func (.func 25) #[] #[]] w fun e w' =>
    e = .returned (.tuple #[.int .i64 (atV x y).x, .int .i64 (atV x y).y, .int .i32 (atV x y).z]) ∧ Below w.heap.size w w' :=
  turned25 ⟨x * 4096, y * 4096, 0⟩ w ⟨⟨by show -288230376151711744 ≤ x * 4096; omega, by show x * 4096 ≤ 288230376151711744; omega⟩, ⟨by show -288230376151711744 ≤ y * 4096; omega, by show y * 4096 ≤ 288230376151711744; omega⟩⟩ ⟨by show -2147483648 ≤ (0 : Int); omega, by show (0 : Int) ≤ 2147483647; omega⟩
set_option maxHeartbeats 1000000 in
theorem atan12 (y x : Int) (w : World) : Calls Try.prog 12 #[.int .i64 y, .int .i64 x] w fun e w' => e = .returned (.int .u32 (atN y x)) ∧ Below w.heap.size w w' := by
  have rx := clampN_rng x
  have ry := clampN_rng y
  unfold atN
  generalize hu : clampN x = u at *
  generalize hv : clampN y = v at *
  have C24x : ∀ W, Hid (Calls Try.prog 24 #[.int .i64 x] W fun e w' => e = .returned (.tuple #[.int .i64 u, .bool (u != x)]) ∧ W = w') := fun W => Lib.hid (by rw [← hu]; exact clamp24 x W)
  have C24y : ∀ W, Hid (Calls Try.prog 24 #[.int .i64 y] W fun e w' => e = .returned (.tuple #[.int .i64 v, .bool (v != y)]) ∧ W = w') := fun W => Lib.hid (by rw [← hv]; exact clamp24 y W)
  clear hu hv
  by_cases h0 : u = 0 ∧ v = 0
  · rw [if_pos h0]
    obtain ⟨rfl, rfl⟩ := h0
    go_enter Try.func12, Try.ntmps12
    go_wp2_with (first
      | (go_at_call_of 24 y; refine (C24y _).out.mono ?_; rintro e w1 ⟨rfl, rfl⟩)
      | (go_at_call_of 24 x; refine (C24x _).out.mono ?_; rintro e w1 ⟨rfl, rfl⟩))
    go_ret
    exact ⟨rfl, Below.refl _ _⟩
  · rw [if_neg h0]
    by_cases hn : u < 0
    · rw [if_pos hn]
      have C19 := fun W => Lib.hid (turnedA (-u) (-v) W (by omega) (by omega))
      generalize atV (-u) (-v) = s at *
      have hb : (u == 0) = false := by rw [beq_eq_false_iff_ne]; omega
      clear h0
      go_enter Try.func12, Try.ntmps12
      go_wp2_with (first
        | (go_at_call_of 24 y; refine (C24y _).out.mono ?_; rintro e w1 ⟨rfl, rfl⟩)
        | (go_at_call_of 24 x; refine (C24x _).out.mono ?_; rintro e w1 ⟨rfl, rfl⟩)
        | (go_at_call 19; refine (C19 _).out.mono ?_; rintro e w1 ⟨rfl, hb1⟩))
      go_ret
      exact ⟨rfl, hb1⟩
    · rw [if_neg hn]
      have C19 := fun W => Lib.hid (turnedA u v W (by omega) (by omega))
      generalize atV u v = s at *
      by_cases h1 : u = 0
      · have hb2 : (v == 0) = false := by rw [beq_eq_false_iff_ne]; exact fun e => h0 ⟨h1, e⟩
        subst h1
        clear h0
        go_enter Try.func12, Try.ntmps12
        go_wp2_with (first
          | (go_at_call_of 24 y; refine (C24y _).out.mono ?_; rintro e w1 ⟨rfl, rfl⟩)
          | (go_at_call_of 24 x; refine (C24x _).out.mono ?_; rintro e w1 ⟨rfl, rfl⟩)
          | (go_at_call 19; refine (C19 _).out.mono ?_; rintro e w1 ⟨rfl, hb1⟩))
        go_ret
        exact ⟨rfl, hb1⟩
      · have hb : (u == 0) = false := by rw [beq_eq_false_iff_ne]; exact h1
        clear h0 h1
        go_enter Try.func12, Try.ntmps12
        go_wp2_with (first
          | (go_at_call_of 24 y; refine (C24y _).out.mono ?_; rintro e w1 ⟨rfl, rfl⟩)
          | (go_at_call_of 24 x; refine (C24x _).out.mono ?_; rintro e w1 ⟨rfl, rfl⟩)
          | (go_at_call 19; refine (C19 _).out.mono ?_; rintro e w1 ⟨rfl, hb1⟩))
        go_ret
        exact ⟨rfl, hb1⟩
end Go.Proofs.Ytccmimgdmfjciaa
