/-
  TrigHalves: whatever angle (a uint32), the law returns true and changes nothing that was there.
-/
import Derived.Test.YtccmimgdmfjciaaWj
namespace Go.Proofs.Ytccmimgdmfjciaa
open Go.RowKit
theorem far_half (a : Int) (h0 : 0 ≤ a) (h1 : a ≤ 4294967295) : far ((a + 2147483648) % 4294967296) = !far a ∧ zof ((a + 2147483648) % 4294967296) = zof a := by
  have hf : far ((a + 2147483648) % 4294967296) = !far a := by
    unfold far
    rw [Bool.eq_iff_iff]
    simp only [Bool.or_eq_true, decide_eq_true_eq, Bool.not_eq_true', Bool.or_eq_false_iff, decide_eq_false_iff_not]
    unfold wrap32
    omega
  refine ⟨hf, ?_⟩
  unfold zof
  rw [hf]
  cases far a
  · simp only [Bool.not_false, if_true, Bool.false_eq_true, if_false]
    congr 1; omega
  · simp only [Bool.not_true, if_true, Bool.false_eq_true, if_false]
theorem sin_half (a : Int) (h0 : 0 ≤ a) (h1 : a ≤ 4294967295) : sinN a = -sinN ((a + 2147483648) % 4294967296) ∧ cosN a = -cosN ((a + 2147483648) % 4294967296) := by
  obtain ⟨h2, h3⟩ := far_half a h0 h1
  unfold sinN cosN scV
  rw [h2, h3]
  cases far a <;> simp
theorem sin_rng (a : Int) : (-72057594037927936 ≤ sinN a ∧ sinN a ≤ 72057594037927936) ∧ (-72057594037927936 ≤ cosN a ∧ cosN a ≤ 72057594037927936) := by
  have h := scV_rng a
  have h1 := halfN_rng (scV a).x h.1.1 h.1.2
  have h2 := halfN_rng (scV a).y h.2.1 h.2.2
  unfold sinN cosN
  split <;> omega
theorem trigHalves_walk (a : Int) (h0 : 0 ≤ a) (h1 : a ≤ 4294967295) (w : World) : Calls Try.prog 4 #[.int .u32 a] w fun e w' => e = .returned (.bool true) ∧ Below w.heap.size w w' := by
  obtain ⟨e1, e2⟩ := sin_half a h0 h1
  have r2 := sin_rng ((a + 2147483648) % 4294967296)
  have C10 := fun W => Lib.hid (sincos10 a W)
  have D10 := fun W => Lib.hid (sincos10 ((a + 2147483648) % 4294967296) W)
  rw [e1, e2] at C10
  clear e1 e2
  generalize hs : sinN ((a + 2147483648) % 4294967296) = s at *
  generalize hc : cosN ((a + 2147483648) % 4294967296) = c at *
  clear hs hc
  obtain ⟨⟨a1, a2⟩, a3, a4⟩ := r2
  go_enter Try.func4, Try.ntmps4
  go_wp2_with (first
    | (go_at_call 9; refine (shown9 _).mono ?_; rintro e w1 ⟨rfl, h1⟩)
    | (go_at_call_of 10 (Value.int .u32 a); refine (C10 _).out.mono ?_; rintro e w2 ⟨rfl, h2⟩)
    | (go_at_call 10; refine (D10 _).out.mono ?_; rintro e w3 ⟨rfl, h3⟩))
  go_ret
  exact ⟨rfl, h1.trans ((h2.mono h1.size).trans (h3.mono (Nat.le_trans h1.size h2.size)))⟩
end Go.Proofs.Ytccmimgdmfjciaa
