/-
  The reference's rounding down, and its half: no conditions but those named.
-/
import Derived.Test.YtccmimgdmfjciaaBase
namespace Go.Proofs.Ytccmimgdmfjciaa
open Go.RowKit
theorem pow_succ2 (k : Nat) : (2 : Int) ^ (k + 1) = 2 ^ k * 2 := Int.pow_succ 2 k
theorem pow_le (k : Nat) (h : k ≤ 30) : 1 ≤ (2 : Int) ^ k ∧ (2 : Int) ^ k ≤ 1073741824 := by
  have : ∀ i : Fin 31, 1 ≤ (2 : Int) ^ i.val ∧ (2 : Int) ^ i.val ≤ 1073741824 := by decide +kernel
  exact this ⟨k, by omega⟩
/-- Go's quotient and remainder by a positive number, in the words of the flooring ones. -/
theorem tdiv_pos (n d : Int) (hn : 0 ≤ n) : n.tdiv d = n / d := Int.tdiv_eq_ediv_of_nonneg hn
theorem tdiv_neg_exact (n d : Int) (h : n % d = 0) : n.tdiv d = n / d ∧ n.tdiv d * d = n := by
  have h1 : d ∣ n := Int.dvd_of_emod_eq_zero h
  refine ⟨Int.tdiv_eq_ediv_of_dvd h1, Int.tdiv_mul_cancel h1⟩
theorem tdiv_neg (n d : Int) (hd : 1 ≤ d) (hn : n < 0) (h : n % d ≠ 0) : n.tdiv d = n / d + 1 ∧ n.tdiv d * d ≠ n ∧ n < n.tdiv d * d ∧ n.tdiv d * d ≤ 0 := by
  have e : n.tdiv d = n / d + 1 := by
    rw [Int.tdiv_eq_ediv]
    have : ¬ (0 ≤ n ∨ d ∣ n) := by
      rintro (h1 | h1)
      · omega
      · exact h (Int.emod_eq_zero_of_dvd h1)
    rw [if_neg this, Int.sign_eq_one_of_pos (by omega)]
  have h2 := Int.mul_ediv_add_emod n d
  have h3 := Int.emod_nonneg n (show d ≠ 0 by omega)
  have h4 := Int.emod_lt_of_pos n (show 0 < d by omega)
  have h5 : n.tdiv d * d = n - n % d + d := by rw [e, Int.add_mul, Int.mul_comm (n / d) d]; omega
  have h6 : n.tdiv d * d ≤ 0 := by
    rw [e]
    have : n / d < 0 := Int.ediv_neg_of_neg_of_pos hn (by omega)
    exact Int.mul_nonpos_of_nonpos_of_nonneg (by omega) (by omega)
  exact ⟨e, by omega, by omega, h6⟩
theorem down22 (n : Int) (i : Nat) (w : World) (hi : i ≤ 30) (h1 : -4611686018427387904 ≤ n) (h2 : n ≤ 4611686018427387904) : Calls Try.prog 22 #[.int .i64 n, .int .i64 i] w fun e w' => e = .returned (.int .i64 (n / 2^i)) ∧ w = w' := by
  go_enter Try.func22, Try.ntmps22
  go_wp2
  go_loopw [5, 6] (fun d k wr => ∃ j : Nat, j ≤ i ∧ k = .int .i64 j ∧ d = .int .i64 (2 ^ j) ∧ wr = w) (fun d k _ => i - (intOf k).toNat)
  case atStart => exact ⟨0, by omega, rfl, rfl, rfl⟩
  case round =>
    obtain ⟨j, hj, rfl, rfl, rfl⟩ := hrel
    have hp := pow_le j (by omega)
    by_cases hlt : j < i
    · have hp2 := pow_le (j + 1) (by omega)
      rw [pow_succ2] at hp2
      have hps := Lib.hid (pow_succ2 j)
      generalize (2 : Int) ^ j = d at *
      go_wp2
      go_roundw
      case rel => exact ⟨j + 1, by omega, by go_num, by rw [hps.out]; exact ⟨rfl, trivial⟩⟩
      case measure => simp [intOf]; omega
    · obtain rfl : j = i := by omega
      clear hlt hj
      by_cases hn : 0 ≤ n
      · have e := tdiv_pos n (2 ^ j) hn
        generalize hd : (2 : Int) ^ j = d at *
        have HD := Lib.hid hd
        clear hd
        have E := Lib.hid e
        clear e
        go_wp2
        go_ret
        exact ⟨by rw [HD.out]; first | rw [E.out]; rfl | rw [E.out] | rfl, rfl⟩
      · have hn' : n < 0 := by omega
        by_cases hm : n % 2 ^ j = 0
        · obtain ⟨e, e2⟩ := tdiv_neg_exact n (2 ^ j) hm
          clear hm
          generalize hd : (2 : Int) ^ j = d at *
          have HD := Lib.hid hd
          clear hd
          have E := Lib.hid e
          clear e
          go_wp2
          go_ret
          exact ⟨by rw [HD.out]; first | rw [E.out]; rfl | rw [E.out] | rfl, rfl⟩
        · obtain ⟨e, e2, e3, e4⟩ := tdiv_neg n (2 ^ j) hp.1 hn' hm
          clear hm
          generalize hd : (2 : Int) ^ j = d at *
          have HD := Lib.hid hd
          clear hd
          have hb : (n.tdiv d * d != n) = true := by rw [bne_iff_ne]; exact e2
          have hl : n ≤ n / d ∧ n / d < 0 := by
            have h1 : n / d < 0 := Int.ediv_neg_of_neg_of_pos hn' (by omega)
            refine ⟨?_, h1⟩
            have h2 := Int.mul_ediv_add_emod n d
            have h3 := Int.emod_nonneg n (show d ≠ 0 by omega)
            have h4 : n / d * d ≤ n / d * 1 := Int.mul_le_mul_of_nonpos_left (by omega) (by omega)
            have h5 : n % d < d := Int.emod_lt_of_pos n (by omega)
            have h6 : n / d + 1 ≤ 0 := by omega
            have h7 : (n / d + 1) * d ≤ (n / d + 1) * 1 := Int.mul_le_mul_of_nonpos_left (by omega) (by omega)
            rw [Int.add_mul, Int.mul_comm (n / d) d] at h7
            omega
          have E := Lib.hid e
          have hl2 : n ≤ n.tdiv d ∧ n.tdiv d ≤ 0 := by omega
          clear e e2 hl
          go_wp2
          go_ret
          exact ⟨by rw [HD.out, E.out]; show Ending.returned (Value.int IntKind.i64 (n / d + 1 - 1)) = _; congr 2; omega, rfl⟩
end Go.Proofs.Ytccmimgdmfjciaa
