/-
  math/bits' long division. No conditions but those named.
-/
import Derived.Test.YtpjgmeogkomhlaaGreatPi
import Derived.Laws.Closers25b
import Derived.BigQuiet
namespace Go.Proofs.YtpjgmeogkomhlaaGreat
open Go.RowKit
theorem normY {y : Int} {L : Nat} (h2 : L ≤ 48) (h3 : y < 2 ^ L) (h4 : 2 ^ L ≤ 2 * y) : ∃ V : Int, IntKind.u64.wrap (y * 2 ^ (64 - L)) / 4294967296 = V ∧ V ≠ 0 ∧ 0 < V ∧ V < 4294967296 := by
  have hp : (2 : Int) ^ (64 - L) * 2 ^ L = 18446744073709551616 := by
    rw [← Int.pow_add, Nat.sub_add_cancel (by omega)]; rfl
  have hq : (0 : Int) < 2 ^ (64 - L) := Int.pow_pos (by omega)
  generalize (2 : Int) ^ (64 - L) = P at *
  generalize (2 : Int) ^ L = B at *
  have e1 : y * P < 18446744073709551616 := by
    have := Int.mul_lt_mul_of_pos_right h3 hq
    rw [Int.mul_comm B P, hp] at this
    exact this
  have e2 : 18446744073709551616 ≤ 2 * (y * P) := by
    have := Int.mul_le_mul_of_nonneg_right h4 (Int.le_of_lt hq)
    rw [Int.mul_comm B P, hp, Int.mul_assoc] at this
    exact this
  generalize y * P = z at *
  refine ⟨_, rfl, ?_, ?_, ?_⟩ <;> rw [IntKind.wrap_u64] <;> omega
theorem remX {U V : Int} (h0 : 0 ≤ U) (h1 : U < 18446744073709551616) (h2 : 0 < V) (h3 : V < 4294967296) : ∃ r : Int, IntKind.u64.wrap (U - IntKind.u64.wrap (IntKind.u64.wrap (U.tdiv V) * V)) = r ∧ 0 ≤ r ∧ r < 4294967296 := by
  refine ⟨_, rfl, ?_⟩
  rw [Int.tdiv_eq_ediv_of_nonneg h0]
  have e0 : 0 ≤ U / V := Int.ediv_nonneg h0 (Int.le_of_lt h2)
  have e1 : U / V ≤ U := Int.ediv_le_self _ h0
  have e2 : U % V + V * (U / V) = U := Int.emod_add_mul_ediv U V
  have e3 := Int.emod_nonneg U (show V ≠ 0 by omega)
  have e4 := Int.emod_lt_of_pos U h2
  have e5 : IntKind.u64.wrap (U / V) = U / V := by rw [IntKind.wrap_u64]; omega
  rw [e5, Int.mul_comm (U / V) V]
  have e6 : IntKind.u64.wrap (V * (U / V)) = V * (U / V) := by
    rw [IntKind.wrap_u64]
    have : 0 ≤ V * (U / V) := Int.mul_nonneg (Int.le_of_lt h2) e0
    omega
  rw [e6, IntKind.wrap_u64]
  omega
theorem remY {x V : Int} (h2 : 0 < V) (h3 : V < 4294967296) : 0 ≤ IntKind.u64.wrap (IntKind.u64.wrap x - IntKind.u64.wrap (IntKind.u64.wrap ((IntKind.u64.wrap x).tdiv V) * V)) ∧ IntKind.u64.wrap (IntKind.u64.wrap x - IntKind.u64.wrap (IntKind.u64.wrap ((IntKind.u64.wrap x).tdiv V) * V)) < 4294967296 := by
  obtain ⟨r, e, h⟩ := remX (U := IntKind.u64.wrap x) (V := V) (by rw [IntKind.wrap_u64]; omega) (by rw [IntKind.wrap_u64]; omega) h2 h3
  rw [e]
  exact h
set_option maxRecDepth 10000 in
set_option maxHeartbeats 4000000 in
theorem div104 (hi lo y : Int) (h0 : 0 < y) (h1 : y ≤ 70368744177664) (h2 : 0 < hi) (h3 : hi < y) (w : World) : Calls Tryz.prog 104 #[.int .u64 hi, .int .u64 lo, .int .u64 y] w (Words2 w) := by
  go_enter Tryz.func104, Tryz.ntmps104
  go_wp2_with (first
      | (go_at_call 148; refine (lz148 y h0 h1 _).mono ?_; rintro e w1 ⟨⟨L, rfl, g1, g2, g3, g4⟩, rfl⟩; obtain ⟨V, hV, hV0, hV1, hV2⟩ := normY g2 g3 g4))
  have b0 := bits_lo_u64 BinOp.or (IntKind.u64.wrap (hi * 2 ^ (64 - L))) (lo / 2 ^ (64 - (64 - L)))
  have b1 := bits_hi_u64 BinOp.or (IntKind.u64.wrap (hi * 2 ^ (64 - L))) (lo / 2 ^ (64 - (64 - L)))
  generalize bits BinOp.or IntKind.u64 (IntKind.u64.wrap (hi * 2 ^ (64 - L))) (lo / 2 ^ (64 - (64 - L))) = U at *
  clear hV
  generalize IntKind.u64.wrap (y * 2 ^ (64 - L)) = Y at *
  generalize IntKind.u64.wrap (lo * 2 ^ (64 - L)) = Z at *
  generalize IntKind.u64.wrap (hi * 2 ^ (64 - L)) = Z2 at *
  generalize bits BinOp.and IntKind.u64 Y 4294967295 = Y0 at *
  generalize bits BinOp.and IntKind.u64 Z 4294967295 = Z0 at *
  obtain ⟨r0, hr0, hr1, hr2⟩ := remX b0 (by omega) hV1 hV2
  rw [hr0]
  clear hr0
  generalize IntKind.u64.wrap (U.tdiv V) = q0
  clear b0 b1 g3 g4 h0 h1 h2 h3
  go_loopw [15, 16] (fun q r wr => ∃ (a b : Int), q = .int .u64 a ∧ r = .int .u64 b ∧ 0 ≤ b ∧ b < 4294967296 ∧ w = wr) (fun q r _ => (4294967296 - intOf r).toNat)
  case atStart => exact ⟨_, _, rfl, rfl, hr1, hr2, rfl⟩
  case round =>
    obtain ⟨a, b, rfl, rfl, hb1, hb2, rfl⟩ := hrel
    have hw : IntKind.u64.wrap (b + V) = b + V := by rw [IntKind.wrap_u64]; omega
    go_wp2
    all_goals first
      | exact ⟨⟨_, _, rfl, rfl, by omega, by omega, trivial⟩, by simp [intOf]; omega⟩
      | skip
    all_goals
      clear hw
      (try generalize decide (4294967296 ≤ b + V) = dd)
      (try generalize decide (4294967296 ≤ a) = dd1)
      (try generalize decide (IntKind.u64.wrap (4294967296 * b + Z / 4294967296) < IntKind.u64.wrap (a * Y0)) = dd2)
      go_loopw [18, 16] (fun q r wr => ∃ (a b : Int), q = .int .u64 a ∧ r = .int .u64 b ∧ 0 ≤ b ∧ b < 4294967296 ∧ w = wr) (fun q r _ => (4294967296 - intOf r).toNat)
      case atStart => exact ⟨_, _, rfl, rfl, (remY hV1 hV2).1, (remY hV1 hV2).2, rfl⟩
      case round =>
        obtain ⟨a2, b2, rfl, rfl, hc1, hc2, rfl⟩ := hrel
        have hw2 : IntKind.u64.wrap (b2 + V) = b2 + V := by rw [IntKind.wrap_u64]; omega
        go_wp2
        all_goals first
          | exact ⟨⟨_, _, rfl, rfl, by omega, by omega, trivial⟩, by simp [intOf]; omega⟩
          | (simp only [intOf]; omega)
          | exact bodyPost_ret (by simp [results, Tryz.results104, go_sem]; first | rfl | exact ⟨rfl, rfl⟩) rfl (Words2.of _ _ _)
          | skip
        all_goals
          go_roundw
          case rel => exact ⟨_, _, rfl, rfl, by omega, by omega, trivial⟩
          case measure => simp [intOf]; omega
theorem below_drewN' {B : Nat} {a w : World} (h : Below B a w) (n : Nat) : Below B a (w.drewN n) := ⟨h.os, h.tape, h.output, h.size, h.block⟩
def WordsB (w : World) (e : Ending) (w' : World) : Prop := (∃ h l : Int, e = .returned (.tuple #[.int .u64 h, .int .u64 l])) ∧ Below w.heap.size w w'
theorem WordsB.of {w w' : World} (h l : Int) (hb : Below w.heap.size w w') : WordsB w (.returned (.tuple #[.int .u64 h, .int .u64 l])) w' := ⟨⟨h, l, rfl⟩, hb⟩
theorem div104z (lo y : Int) (h0 : 0 < y) (h4 : 0 ≤ lo) (w : World) : Calls Tryz.prog 104 #[.int .u64 0, .int .u64 lo, .int .u64 y] w (WordsB w) := by
  go_enter Tryz.func104, Tryz.ntmps104
  go_wp2
  refine wp_region_quiet_lit (by kernel_rfl) (by kernel_rfl) ?_
  repeat (go_big_quiet_step (fail))
  refine wpQuiet_nil ?_
  rintro _ ⟨nq, rfl⟩
  go_wp2
  exact bodyPost_ret (by simp [results, Tryz.results104, go_sem]; exact ⟨rfl, rfl⟩) rfl (WordsB.of _ _ (below_drewN' (Below.refl _ _) _))
theorem div104all (hi lo y : Int) (h0 : 0 < y) (h1 : y ≤ 70368744177664) (h2 : 0 ≤ hi) (h3 : hi < y) (h4 : 0 ≤ lo) (w : World) : Calls Tryz.prog 104 #[.int .u64 hi, .int .u64 lo, .int .u64 y] w (WordsB w) := by
  by_cases e : hi = 0
  · subst e
    exact div104z lo y h0 h4 w
  · refine (div104 hi lo y h0 h1 (by omega) h3 w).mono ?_
    rintro e w' ⟨⟨h, l, rfl⟩, rfl⟩
    exact WordsB.of _ _ (Below.refl _ _)
end Go.Proofs.YtpjgmeogkomhlaaGreat
