/-
  The reference's half by 64 is the plain one: no conditions but those named.
-/
import Derived.Test.YtccmimgdmfjciaaWa
import Derived.Test.YtccmimgdmfjciaaWc
namespace Go.Proofs.Ytccmimgdmfjciaa
open Go.RowKit
theorem rhalf23 (n : Int) (w : World) (h1 : -4611686018427387904 ≤ n) (h2 : n ≤ 4611686018427387904) : Calls Try.prog 23 #[.int .i64 n, .int .i64 6] w fun e w' => e = .returned (.int .i64 (halfN n)) ∧ w = w' := by
  obtain ⟨q, r, hq, hr, hf⟩ : ∃ q r, n.tdiv 64 = q ∧ n.tmod 64 = r ∧ ((0 ≤ r ∧ q = n / 64 ∧ r = n % 64) ∨ (r < 0 ∧ q = n / 64 + 1 ∧ r = n % 64 - 64)) := by
    refine ⟨_, _, rfl, rfl, ?_⟩
    have hm : n.tmod 64 = n - 64 * n.tdiv 64 := by have := Int.mul_tdiv_add_tmod n 64; omega
    by_cases h0 : 0 ≤ n
    · have := tdiv_pos n 64 h0
      left; omega
    · by_cases hz : n % 64 = 0
      · have := (tdiv_neg_exact n 64 hz).1
        left; omega
      · have := (tdiv_neg n 64 (by omega) (by omega) hz).1
        right; omega
  go_enter Try.func23, Try.ntmps23
  go_wp2
  go_loopw [5, 6] (fun d k wr => ∃ j : Nat, j ≤ 6 ∧ k = .int .i64 j ∧ d = .int .i64 (2 ^ j) ∧ wr = w) (fun d k _ => 6 - (intOf k).toNat)
  case atStart => exact ⟨0, by omega, rfl, rfl, rfl⟩
  case round =>
    obtain ⟨j, hj, rfl, rfl, rfl⟩ := hrel
    by_cases hlt : j < 6
    · have hp2 := pow_le (j + 1) (by omega)
      rw [pow_succ2] at hp2
      have hps := Lib.hid (pow_succ2 j)
      generalize (2 : Int) ^ j = d at *
      go_wp2
      go_roundw
      case rel => exact ⟨j + 1, by omega, by go_num, by rw [hps.out]; exact ⟨rfl, trivial⟩⟩
      case measure => simp [intOf]; omega
    · obtain rfl : j = 6 := by omega
      have e64 : (2 : Int) ^ 6 = 64 := by decide
      rw [e64]
      clear hj hlt
      have hpar : n / 64 % 2 = 0 ∨ n / 64 % 2 = 1 := by omega
      have ht : ((n / 64).tmod 2 != 0) = decide (n / 64 % 2 = 1) := by
        have hm := Int.mul_tdiv_add_tmod (n / 64) 2
        have h1 := tdiv_pos (n / 64) 2
        have h2 := tdiv_neg_exact (n / 64) 2
        have h3 := tdiv_neg (n / 64) 2 (by omega)
        rw [Bool.eq_iff_iff, bne_iff_ne, decide_eq_true_iff]
        by_cases hn : 0 ≤ n / 64
        · have := h1 hn; omega
        · rcases hpar with hp | hp
          · have := (h2 hp).1; omega
          · have := (h3 (by omega) (by omega)).1; omega
      rcases hf with ⟨s1, s2, s3⟩ | ⟨s1, s2, s3⟩
      · subst s2 s3
        rcases hpar with hp | hp
        · have ht2 : ((n / 64).tmod 2 != 0) = false := by rw [ht]; simp [hp]
          clear ht
          go_wp2
          all_goals go_ret
          all_goals refine ⟨?_, rfl⟩
          all_goals show Ending.returned (Value.int IntKind.i64 _) = _
          all_goals unfold halfN
          all_goals first | rw [if_pos (by omega)] | rw [if_neg (by omega)]
        · have ht2 : ((n / 64).tmod 2 != 0) = true := by rw [ht]; simp [hp]
          clear ht
          go_wp2
          all_goals go_ret
          all_goals refine ⟨?_, rfl⟩
          all_goals show Ending.returned (Value.int IntKind.i64 _) = _
          all_goals unfold halfN
          all_goals first | rw [if_pos (by omega)] | rw [if_neg (by omega)]
      · have s4 : r + 64 = n % 64 := by omega
        have s5 : q - 1 = n / 64 := by omega
        have s6 : q - 1 + 1 = n / 64 + 1 := by omega
        rcases hpar with hp | hp
        · have ht2 : ((n / 64).tmod 2 != 0) = false := by rw [ht]; simp [hp]
          clear ht
          go_wp2
          all_goals go_ret
          all_goals refine ⟨?_, rfl⟩
          all_goals show Ending.returned (Value.int IntKind.i64 _) = _
          all_goals unfold halfN
          all_goals first | rw [if_pos (by omega)] | rw [if_neg (by omega)]
        · have ht2 : ((n / 64).tmod 2 != 0) = true := by rw [ht]; simp [hp]
          clear ht
          go_wp2
          all_goals go_ret
          all_goals refine ⟨?_, rfl⟩
          all_goals show Ending.returned (Value.int IntKind.i64 _) = _
          all_goals unfold halfN
          all_goals first | rw [if_pos (by omega)] | rw [if_neg (by omega)]
end Go.Proofs.Ytccmimgdmfjciaa
