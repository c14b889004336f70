/-
  TrigSquares: whatever angle, the law returns true and changes nothing that was there. No conditions.
-/
import Derived.Test.YtccmimgdmfjciaaSqLaw
namespace Go.Proofs.Ytccmimgdmfjciaa
open Go.RowKit
set_option maxRecDepth 20000 in
set_option maxHeartbeats 1000000 in
theorem trigSquares_walk (a : Int) (w : World) : Calls Try.prog 6 #[.int .u32 a] w fun e w' => e = .returned (.bool true) ∧ Below w.heap.size w w' := by
  have C10 := fun W => Lib.hid (sincos10 a W)
  obtain ⟨⟨s1, s2⟩, ⟨c1, c2⟩, d1, d2⟩ := squares a
  generalize sinN a = s at *
  generalize cosN a = c at *
  have g1 := mul_abs s s 16777232 16777232 s1 s2 s1 s2
  have g2 := mul_abs c c 16777232 16777232 c1 c2 c1 c2
  have r1 : -281475513581824 ≤ s * s ∧ s * s ≤ 281475513581824 := by omega
  have r2 : -281475513581824 ≤ c * c ∧ c * c ≤ 281475513581824 := by omega
  have t1 : decide (16777232 < s) = false := decide_eq_false (by omega)
  have t2 : decide (s < -16777232) = false := decide_eq_false (by omega)
  have t3 : decide (16777232 < c) = false := decide_eq_false (by omega)
  have t4 : decide (c < -16777232) = false := decide_eq_false (by omega)
  have t5 : decide (s * s + c * c - 281474976710656 < 1073741824) = true := decide_eq_true d2
  have t6 : decide (-1073741824 < s * s + c * c - 281474976710656) = true := decide_eq_true d1
  clear g1 g2
  go_enter Try.func6, Try.ntmps6
  go_wp2_with (first
    | (go_at_call 9; refine (shown9 _).mono ?_; rintro e w1 ⟨rfl, h1⟩)
    | (go_at_call 10; refine (C10 _).out.mono ?_; rintro e w2 ⟨rfl, h2⟩))
  go_ret
  exact ⟨rfl, h1.trans (h2.mono h1.size)⟩
end Go.Proofs.Ytccmimgdmfjciaa
