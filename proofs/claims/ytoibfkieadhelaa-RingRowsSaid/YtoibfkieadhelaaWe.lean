/-
  The reference Get and Newest: under the premises named.
-/
import Derived.Test.YtoibfkieadhelaaWd
import Derived.Test.YtoibfkieadhelaaWb
import Derived.Deep.QuietTactic
import Derived.BigQuiet
import Derived.StillTailTactics
namespace Go.Proofs.Ytoibfkieadhelaa
open Go.RowKit

set_option maxHeartbeats 1000000 in
theorem rget_yes (p : Nat → Int) (s : Nat → Smp) (k : Int) (n : Nat) (w : World) (h0 : 0 < k) (hn : n < 16) (hp : p n = k) (hf : ∀ j, j < n → p j ≠ k) :
    Calls Try.prog 18 #[.agg (mk p s), .int .i64 k] w fun e w' => e = .returned (.tuple #[.agg (s n).cells, .bool true]) ∧ Below w.heap.size w w' := by
  have HP := Lib.hid hp
  have HF := Lib.hid hf
  clear hp hf
  go_enter Try.func18, Try.ntmps18
  go_wp2
  go_loop [6] (fun i => ∃ j : Nat, j ≤ n ∧ i = .int .i64 j) (fun i => 16 - (intOf i).toNat)
  case atStart => exact ⟨0, Nat.zero_le _, rfl⟩
  case round =>
    obtain ⟨j, hj, rfl⟩ := hrel
    have hlt : j < 16 := by omega
    have hR := mk_place p s j hlt
    by_cases hjn : j < n
    · have hne : (p j == k) = false := by rw [beq_eq_false_iff_ne]; exact HF.out j hjn
      go_wp2
      go_round
      case rel => exact ⟨j + 1, by omega, by go_num⟩
      case measure => simp [intOf]; omega
    · obtain rfl : n = j := by omega
      have he : (p n == k) = true := by rw [beq_iff_eq]; exact HP.out
      obtain ⟨c0, c1, c2, c3, c4, c5, c6, c7, c8, c9, c10, c11, c12⟩ := mk13 p s n hlt
      go_wp2
      exact bodyPost_ret (v := .tuple #[.agg (s n).cells, .bool true]) (by simp [results, Try.results18, go_sem, Smp.cells]) rfl ⟨rfl, ((Below.refl _ _).alloc (Nat.le_refl _) _).alloc (by simp) _⟩

set_option maxHeartbeats 1000000 in
theorem rget_no (p : Nat → Int) (s : Nat → Smp) (k : Int) (w : World) (hf : k ≤ 0 ∨ ∀ j, j < 16 → p j ≠ k) :
    Calls Try.prog 18 #[.agg (mk p s), .int .i64 k] w fun e w' => e = .returned (.tuple #[.agg Smp.zero.cells, .bool false]) ∧ Below w.heap.size w w' := by
  have HF := Lib.hid hf
  clear hf
  by_cases h0 : 0 < k
  all_goals
    go_enter Try.func18, Try.ntmps18
    go_wp2
    go_loop [6] (fun i => ∃ j : Nat, j ≤ 16 ∧ i = .int .i64 j) (fun i => 16 - (intOf i).toNat)
    case atStart => exact ⟨0, Nat.zero_le _, rfl⟩
    case round =>
      obtain ⟨j, hj, rfl⟩ := hrel
      by_cases hlt : j < 16
      · have hR := mk_place p s j hlt
        first
          | (have hne : (p j == k) = false := by
               rw [beq_eq_false_iff_ne]; rcases HF.out with h | h; exact absurd h0 (by omega); exact h j hlt
             go_wp2
             go_round
             case rel => exact ⟨j + 1, by omega, by go_num⟩
             case measure => simp [intOf]; omega)
          | (go_wp2
             go_round
             case rel => exact ⟨j + 1, by omega, by go_num⟩
             case measure => simp [intOf]; omega)
      · obtain rfl : j = 16 := by omega
        go_wp2
        exact bodyPost_ret (v := .tuple #[.agg Smp.zero.cells, .bool false]) (by simp [results, Try.results18, go_sem, Smp.cells, Smp.zero]) rfl ⟨rfl, ((Below.refl _ _).alloc (Nat.le_refl _) _).alloc (by simp) _⟩

/-- The greatest of the first places, as the reference finds it: from 0 on. -/
def rmxTo (p : Nat → Int) : Nat → Int
  | 0 => 0
  | k + 1 => if rmxTo p k < p k then p k else rmxTo p k

set_option maxHeartbeats 1000000 in
theorem rnewest_any (p : Nat → Int) (s : Nat → Smp) (w : World) :
    Calls Try.prog 20 #[.agg (mk p s)] w fun e w' => e = .returned (.int .i64 (rmxTo p 16)) ∧ Below w.heap.size w w' := by
  have hfin : Below w.heap.size w (w.alloc (Obj.cells (mk p s) 30)) := (Below.refl _ _).alloc (Nat.le_refl _) _
  have HF := Lib.hid hfin
  clear hfin
  go_enter Try.func20, Try.ntmps20
  go_wp2
  go_loop [3, 4] (fun m i => ∃ k : Nat, k ≤ 16 ∧ i = .int .i64 k ∧ m = .int .i64 (rmxTo p k)) (fun _ i => 16 - (intOf i).toNat)
  case atStart => exact ⟨0, by omega, rfl, rfl⟩
  case round =>
    obtain ⟨k, hk, rfl, rfl⟩ := hrel
    by_cases hlt : k < 16
    · have hR := mk_place p s k hlt
      have hs : rmxTo p (k + 1) = if rmxTo p k < p k then p k else rmxTo p k := rfl
      by_cases hm : rmxTo p k < p k
      · rw [if_pos hm] at hs
        have HS := Lib.hid hs
        clear hs
        go_wp2
        go_round
        case rel => exact ⟨k + 1, by omega, by go_num, by rw [HS.out]⟩
        case measure => simp [intOf]; omega
      · rw [if_neg hm] at hs
        have HS := Lib.hid hs
        clear hs
        go_wp2
        go_round
        case rel => exact ⟨k + 1, by omega, by go_num, by rw [HS.out]⟩
        case measure => simp [intOf]; omega
    · obtain rfl : k = 16 := by omega
      go_wp2
      go_ret
      exact ⟨rfl, HF.out⟩
end Go.Proofs.Ytoibfkieadhelaa
