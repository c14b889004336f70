/-
  The small functions: which way to turn, the way between two angles, bounds, halves: no conditions but those named.
-/
import Derived.Test.YtccmimgdmfjciaaBase
import Derived.Laws.Bits64b
namespace Go.Proofs.Ytccmimgdmfjciaa
open Go.RowKit
theorem up20 (y z : Int) (w : World) : Calls Try.prog 20 #[.int .i64 y, .int .i32 z] w fun e w' => e = .returned (.bool (decide (0 ≤ z))) ∧ w = w' := by
  go_enter Try.func20, Try.ntmps20
  go_wp2
  go_ret
  exact ⟨rfl, rfl⟩
theorem up25 (y z : Int) (w : World) : Calls Try.prog 25 #[.int .i64 y, .int .i32 z] w fun e w' => e = .returned (.bool (decide (y < 0))) ∧ w = w' := by
  go_enter Try.func25, Try.ntmps25
  go_wp2
  go_ret
  exact ⟨rfl, rfl⟩
def wrapD (a b : Int) : Int := wrap32 ((a - b) % 4294967296)
theorem wrap16 (a b : Int) (w : World) : Calls Try.prog 16 #[.int .u32 a, .int .u32 b] w fun e w' => e = .returned (.int .i32 (wrapD a b)) ∧ w = w' := by
  go_enter Try.func16, Try.ntmps16
  go_wp2
  go_ret
  exact ⟨rfl, rfl⟩
theorem wrap17 (a b : Int) (w : World) : Calls Try.prog 17 #[.int .u32 a, .int .u32 b] w fun e w' => e = .returned (.int .i32 (wrapD a b)) ∧ w = w' := by
  go_enter Try.func17, Try.ntmps17
  go_wp2
  go_ret
  exact ⟨rfl, rfl⟩
theorem near18 (a b c : Int) (w : World) (h1 : wrap64 (a - b) < c) (h2 : wrap64 (b - a) < c) : Calls Try.prog 18 #[.int .i64 a, .int .i64 b, .int .i64 c] w fun e w' => e = .returned (.bool true) ∧ w = w' := by
  have e1 : decide (wrap64 (a - b) < c) = true := decide_eq_true h1
  have e2 : decide (wrap64 (b - a) < c) = true := decide_eq_true h2
  clear h1 h2
  go_enter Try.func18, Try.ntmps18
  go_wp2
  go_ret
  exact ⟨rfl, rfl⟩
def clampN (a : Int) : Int := if a > 70368744177663 then 70368744177663 else if a < -70368744177664 then -70368744177664 else a
theorem clampN_rng (a : Int) : -70368744177664 ≤ clampN a ∧ clampN a ≤ 70368744177663 := by unfold clampN; split <;> (try split) <;> omega
theorem clamp24 (a : Int) (w : World) : Calls Try.prog 24 #[.int .i64 a] w fun e w' => e = .returned (.tuple #[.int .i64 (clampN a), .bool (clampN a != a)]) ∧ w = w' := by
  have h : (if (if a < -70368744177664 then -70368744177664 else a) > 70368744177663 then 70368744177663 else (if a < -70368744177664 then -70368744177664 else a)) = clampN a := by
    unfold clampN; split <;> split <;> (try split) <;> omega
  have H := Lib.hid (show ∀ b, (b = clampN a) → (b != a) = (clampN a != a) from fun b e => by rw [e])
  unfold clampN
  by_cases h1 : a > 70368744177663
  · rw [if_pos h1]
    have e1 : (if a < -70368744177664 then -70368744177664 else a) = a := if_neg (by omega)
    clear h H
    go_enter Try.func24, Try.ntmps24
    go_wp2
    exact bodyPost_ret (v := .tuple #[.int .i64 70368744177663, .bool (70368744177663 != a)]) (by simp [results, Try.results24, go_sem]) rfl ⟨rfl, rfl⟩
  · rw [if_neg h1]
    by_cases h2 : a < -70368744177664
    · rw [if_pos h2]
      have e1 : (if a < -70368744177664 then -70368744177664 else a) = -70368744177664 := if_pos h2
      clear h H
      go_enter Try.func24, Try.ntmps24
      go_wp2
      exact bodyPost_ret (v := .tuple #[.int .i64 (-70368744177664), .bool (-70368744177664 != a)]) (by simp [results, Try.results24, go_sem]) rfl ⟨rfl, rfl⟩
    · rw [if_neg h2, bne_self_eq_false]
      have e1 : (if a < -70368744177664 then -70368744177664 else a) = a := if_neg h2
      clear h H
      go_enter Try.func24, Try.ntmps24
      go_wp2
      exact bodyPost_ret (v := .tuple #[.int .i64 a, .bool false]) (by simp [results, Try.results24, go_sem]) rfl ⟨rfl, rfl⟩
theorem clamp26 (a : Int) (w : World) : Calls Try.prog 26 #[.int .i64 a] w fun e w' => e = .returned (.tuple #[.int .i64 (clampN a), .bool (clampN a != a)]) ∧ w = w' := by
  unfold clampN
  by_cases h1 : a > 70368744177663
  · rw [if_pos h1]
    have e : (70368744177663 != a) = true := by rw [bne_iff_ne]; omega
    rw [e]
    go_enter Try.func26, Try.ntmps26
    go_wp2
    exact bodyPost_ret (v := .tuple #[.int .i64 70368744177663, .bool true]) (by simp [results, Try.results26, go_sem]) rfl ⟨rfl, rfl⟩
  · rw [if_neg h1]
    by_cases h2 : a < -70368744177664
    · rw [if_pos h2]
      have e : (-70368744177664 != a) = true := by rw [bne_iff_ne]; omega
      rw [e]
      go_enter Try.func26, Try.ntmps26
      go_wp2
      exact bodyPost_ret (v := .tuple #[.int .i64 (-70368744177664), .bool true]) (by simp [results, Try.results26, go_sem]) rfl ⟨rfl, rfl⟩
    · rw [if_neg h2, bne_self_eq_false]
      go_enter Try.func26, Try.ntmps26
      go_wp2
      exact bodyPost_ret (v := .tuple #[.int .i64 a, .bool false]) (by simp [results, Try.results26, go_sem]) rfl ⟨rfl, rfl⟩
theorem u64_and63 (n : Int) : bits .and .u64 (IntKind.u64.wrap n) 63 = n % 64 := by
  rw [IntKind.wrap_u64]
  have h := bits_and_u64_nat (n % 18446744073709551616).toNat 63 (by omega) (by omega)
  rw [show (63 : Nat) = 2 ^ 6 - 1 from rfl, Nat.and_two_pow_sub_one_eq_mod] at h
  rw [show (((n % 18446744073709551616).toNat : Nat) : Int) = n % 18446744073709551616 by omega] at h
  refine h.trans ?_
  omega
theorem i64_and1 (q : Int) : bits .and .i64 q 1 = q % 2 := by
  show IntKind.i64.wrap ((BitVec.ofInt 64 q &&& BitVec.ofInt 64 1).toNat : Int) = _
  rw [BitVec.toNat_and, BitVec.toNat_ofInt, show (BitVec.ofInt 64 1).toNat = 1 from rfl, Nat.and_one_is_mod]
  have : (((q % (2 ^ 64 : Nat)).toNat % 2 : Nat) : Int) = q % 2 := by omega
  rw [this]
  have h : q % 2 = 0 ∨ q % 2 = 1 := by omega
  rcases h with h | h <;> rw [h] <;> rfl
def halfN (n : Int) : Int := if n % 64 > 32 ∨ (n % 64 = 32 ∧ n / 64 % 2 = 1) then n / 64 + 1 else n / 64
theorem half21 (n : Int) (w : World) (h1 : -4611686018427387904 ≤ n) (h2 : n ≤ 4611686018427387904) : Calls Try.prog 21 #[.int .i64 n, .int .i64 6] w fun e w' => e = .returned (.int .i64 (halfN n)) ∧ w = w' := by
  have b1 := u64_and63 n
  have b2 := i64_and1 (n / 64)
  unfold halfN
  by_cases c1 : n % 64 > 32
  · rw [if_pos (Or.inl c1)]
    go_enter Try.func21, Try.ntmps21
    go_wp2
    go_ret
    exact ⟨rfl, rfl⟩
  · by_cases c2 : n % 64 = 32
    · by_cases c3 : n / 64 % 2 = 1
      · rw [if_pos (Or.inr ⟨c2, c3⟩)]
        rw [c2] at b1
        rw [c3] at b2
        clear c1 c2 c3
        go_enter Try.func21, Try.ntmps21
        go_wp2
        go_ret
        exact ⟨rfl, rfl⟩
      · rw [if_neg (by omega)]
        rw [c2] at b1
        rw [show n / 64 % 2 = 0 by omega] at b2
        clear c1 c2 c3
        go_enter Try.func21, Try.ntmps21
        go_wp2
        go_ret
        exact ⟨rfl, rfl⟩
    · rw [if_neg (by omega)]
      have c2' : (n % 64 == 32) = false := by rw [beq_eq_false_iff_ne]; exact c2
      clear c2
      go_enter Try.func21, Try.ntmps21
      go_wp2
      go_ret
      exact ⟨rfl, rfl⟩
end Go.Proofs.Ytccmimgdmfjciaa
