/-
  TrigQuarters: whatever two numbers (of their types), the law returns true and changes nothing that was there.
-/
import Derived.Test.YtccmimgdmfjciaaQuLaw
namespace Go.Proofs.Ytccmimgdmfjciaa
open Go.RowKit
theorem wrapD_0 (z : Int) (h1 : -2147483648 ≤ z) (h2 : z ≤ 2147483647) : wrapD (z % 4294967296) 0 = z := by unfold wrapD wrap32; omega
theorem wrapD_h (z : Int) (h1 : -2147483648 ≤ z) (h2 : z ≤ 2147483647) : wrapD ((2147483648 + z % 4294967296) % 4294967296) 2147483648 = z := by unfold wrapD wrap32; omega
theorem alone_p (x : Int) (h0 : 0 ≤ x) (h1 : x ≤ 4294967295) : -256 < wrapD (atN 0 (x + 16777216)) 0 ∧ wrapD (atN 0 (x + 16777216)) 0 < 256 := by
  rw [atN_pos 0 (x + 16777216) (by omega) (by omega) (by omega)]
  have h := at_x (x + 16777216) (by omega)
  rw [wrapD_0 _ (by omega) (by omega)]
  omega
theorem alone_n (x : Int) (h0 : 0 ≤ x) (h1 : x ≤ 4294967295) : -256 < wrapD (atN 0 (-16777216 - x)) 2147483648 ∧ wrapD (atN 0 (-16777216 - x)) 2147483648 < 256 := by
  rw [atN_neg 0 (-16777216 - x) (by omega) (by omega) (by omega), show -(-16777216 - x) = x + 16777216 by omega, show -(0 : Int) = 0 from rfl]
  have h := at_x (x + 16777216) (by omega)
  rw [wrapD_h _ (by omega) (by omega)]
  omega
theorem both_p (y x : Int) (hy : 1 ≤ y) (hx : 1 ≤ x) (hy1 : y ≤ 4294967295) (hx1 : x ≤ 4294967295) : -256 < wrapD (atN y x) 0 ∧ wrapD (atN y x) 0 < 1073742080 := by
  rw [atN_pos y x (by omega) (by omega) (by omega)]
  have h := at_q1 x y hx hy
  rw [wrapD_0 _ (by omega) (by omega)]
  omega
theorem both_n (y x : Int) (hy : 1 ≤ y) (hx : 1 ≤ x) (hy1 : y ≤ 4294967295) (hx1 : x ≤ 4294967295) : -1073742080 < wrapD (atN (-y) x) 0 ∧ wrapD (atN (-y) x) 0 < 256 := by
  rw [atN_pos (-y) x (by omega) (by omega) (by omega)]
  have h := at_q4 x y hx hy
  rw [wrapD_0 _ (by omega) (by omega)]
  omega
set_option maxRecDepth 20000 in
set_option maxHeartbeats 2000000 in
theorem trigQuarters_walk (y x : Int) (hy0 : 0 ≤ y) (hy1 : y ≤ 4294967295) (hx0 : 0 ≤ x) (hx1 : x ≤ 4294967295) (w : World) : Calls Try.prog 8 #[.int .u32 y, .int .u32 x] w fun e w' => e = .returned (.bool true) ∧ Below w.heap.size w w' := by
  have B0 : Hid (Below w.heap.size w w ∧ w.heap.size ≤ w.heap.size) := Lib.hid ⟨Below.refl _ _, Nat.le_refl _⟩
  by_cases h0 : x = 0 ∨ y = 0
  · have C1 := fun W => Lib.hid (atan12 0 (x + 16777216) W)
    have C2 := fun W => Lib.hid (atan12 0 (-16777216 - x) W)
    obtain ⟨a1, a2⟩ := alone_p x hx0 hx1
    obtain ⟨b1, b2⟩ := alone_n x hx0 hx1
    have hxy : (x == 0) = true ∨ ((x == 0) = false ∧ (y == 0) = true) := by
      by_cases hx : x = 0
      · exact Or.inl (by rw [beq_iff_eq]; exact hx)
      · exact Or.inr ⟨by rw [beq_eq_false_iff_ne]; exact hx, by rw [beq_iff_eq]; omega⟩
    clear h0
    have D1 := fun W => Lib.hid (wrap16 (atN 0 (x + 16777216)) 0 W)
    have D2 := fun W => Lib.hid (wrap16 (atN 0 (-16777216 - x)) 2147483648 W)
    generalize wrapD (atN 0 (x + 16777216)) 0 = p at *
    generalize wrapD (atN 0 (-16777216 - x)) 2147483648 = q at *
    generalize atN 0 (x + 16777216) = s at *
    generalize atN 0 (-16777216 - x) = t at *
    have t1 : decide (p < 256) = true := decide_eq_true a2
    have t2 : decide (-256 < p) = true := decide_eq_true a1
    have t3 : decide (q < 256) = true := decide_eq_true b2
    have t4 : decide (-256 < q) = true := decide_eq_true b1
    rcases hxy with e1 | ⟨e1, e2⟩
    · go_enter Try.func8, Try.ntmps8
      go_wp2_with (first
        | (go_at_call 9; refine (shown9 _).mono ?_; rintro e w1 ⟨rfl, h1⟩; have B0 := Below.snoc B0 h1; clear h1)
        | (go_at_call_of 16 s; refine (D1 _).out.mono ?_; rintro e w1 ⟨rfl, rfl⟩)
        | (go_at_call_of 16 t; refine (D2 _).out.mono ?_; rintro e w1 ⟨rfl, rfl⟩)
        | (go_at_call 12; with_reducible refine (C1 _).out.mono ?_; rintro e w1 ⟨rfl, h1⟩; have B0 := Below.snoc B0 h1; clear h1)
        | (go_at_call 12; with_reducible refine (C2 _).out.mono ?_; rintro e w1 ⟨rfl, h1⟩; have B0 := Below.snoc B0 h1; clear h1))
      go_ret
      exact ⟨rfl, B0.out.1⟩
    · go_enter Try.func8, Try.ntmps8
      go_wp2_with (first
        | (go_at_call 9; refine (shown9 _).mono ?_; rintro e w1 ⟨rfl, h1⟩; have B0 := Below.snoc B0 h1; clear h1)
        | (go_at_call_of 16 s; refine (D1 _).out.mono ?_; rintro e w1 ⟨rfl, rfl⟩)
        | (go_at_call_of 16 t; refine (D2 _).out.mono ?_; rintro e w1 ⟨rfl, rfl⟩)
        | (go_at_call 12; with_reducible refine (C1 _).out.mono ?_; rintro e w1 ⟨rfl, h1⟩; have B0 := Below.snoc B0 h1; clear h1)
        | (go_at_call 12; with_reducible refine (C2 _).out.mono ?_; rintro e w1 ⟨rfl, h1⟩; have B0 := Below.snoc B0 h1; clear h1))
      go_ret
      exact ⟨rfl, B0.out.1⟩
  · have C1 := fun W => Lib.hid (atan12 y x W)
    have C2 := fun W => Lib.hid (atan12 (-y) x W)
    obtain ⟨a1, a2⟩ := both_p y x (by omega) (by omega) hy1 hx1
    obtain ⟨b1, b2⟩ := both_n y x (by omega) (by omega) hy1 hx1
    have e1 : (x == 0) = false := by rw [beq_eq_false_iff_ne]; omega
    have e2 : (y == 0) = false := by rw [beq_eq_false_iff_ne]; omega
    clear h0
    have D1 := fun W => Lib.hid (wrap16 (atN y x) 0 W)
    have D2 := fun W => Lib.hid (wrap16 (atN (-y) x) 0 W)
    generalize wrapD (atN y x) 0 = p at *
    generalize wrapD (atN (-y) x) 0 = q at *
    generalize atN y x = s at *
    generalize atN (-y) x = t at *
    have t1 : decide (p < 1073742080) = true := decide_eq_true a2
    have t2 : decide (-256 < p) = true := decide_eq_true a1
    have t3 : decide (q < 256) = true := decide_eq_true b2
    have t4 : decide (-1073742080 < q) = true := decide_eq_true b1
    go_enter Try.func8, Try.ntmps8
    go_wp2_with (first
      | (go_at_call 9; refine (shown9 _).mono ?_; rintro e w1 ⟨rfl, h1⟩; have B0 := Below.snoc B0 h1; clear h1)
      | (go_at_call_of 16 s; refine (D1 _).out.mono ?_; rintro e w1 ⟨rfl, rfl⟩)
      | (go_at_call_of 16 t; refine (D2 _).out.mono ?_; rintro e w1 ⟨rfl, rfl⟩)
      | (go_at_call_of 12 (Value.int .i64 y); refine (C1 _).out.mono ?_; rintro e w1 ⟨rfl, h1⟩; have B0 := Below.snoc B0 h1; clear h1)
      | (go_at_call 12; refine (C2 _).out.mono ?_; rintro e w1 ⟨rfl, h1⟩; have B0 := Below.snoc B0 h1; clear h1))
    go_ret
    exact ⟨rfl, B0.out.1⟩
end Go.Proofs.Ytccmimgdmfjciaa
