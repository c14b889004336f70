/-
  TrigTurns: whatever place (an int), the law returns true and changes nothing that was there.
-/
import Derived.Test.YtccmimgdmfjciaaWj
namespace Go.Proofs.Ytccmimgdmfjciaa
open Go.RowKit
def sumT : Nat → Int
  | 0 => 0
  | n + 1 => sumT n + tn n
theorem sumT_rng (n : Nat) (h : n ≤ 30) : 0 ≤ sumT n ∧ sumT n ≤ 4294967296 := by
  have : ∀ i : Fin 31, 0 ≤ sumT i.val ∧ sumT i.val ≤ 4294967296 := by decide +kernel
  exact this ⟨n, by omega⟩
theorem turn_nat (k : Nat) (hk : k < 30) (w : World) : Calls Try.prog 14 #[.int .i64 k] w fun e w' => e = .returned (.int .i32 (tn k)) ∧ Below w.heap.size w w' := by
  have h := turn_any k w (by omega) (by omega)
  rw [if_neg (by omega), Int.toNat_natCast] at h
  exact h
theorem turn_out (i : Int) (w : World) (h0 : -9223372036854775808 ≤ i) (h1 : i ≤ 9223372036854775807) (h : i < 0 ∨ 30 ≤ i) : Calls Try.prog 14 #[.int .i64 i] w fun e w' => e = .returned (.int .i32 0) ∧ Below w.heap.size w w' := by
  have h2 := turn_any i w h0 h1
  have hz : (if i < 0 then 0 else tn i.toNat) = 0 := by
    by_cases hn : i < 0
    · rw [if_pos hn]
    · rw [if_neg hn]; exact tn_out (by omega)
  rw [hz] at h2
  exact h2
theorem tn_falls (k : Nat) (hk : k < 30) : 1 ≤ tn k ∧ (0 < k → tn k < tn (k - 1)) := by
  have : ∀ i : Fin 30, 1 ≤ tn i.val ∧ (0 < i.val → tn i.val < tn (i.val - 1)) := by decide +kernel
  exact this ⟨k, hk⟩
set_option maxRecDepth 20000 in
set_option maxHeartbeats 1000000 in
theorem trigTurns_walk (i : Int) (h0 : -9223372036854775808 ≤ i) (h1 : i ≤ 9223372036854775807) (w : World) : Calls Try.prog 7 #[.int .i64 i] w fun e w' => e = .returned (.bool true) ∧ Below w.heap.size w w' := by
  have HSum : Hid (sumT 30 > 1073741824) := Lib.hid (by decide +kernel)
  have HI := Lib.hid (And.intro h0 h1)
  clear h0 h1
  go_enter Try.func7, Try.ntmps7
  go_wp2_with (first
    | (go_at_call 9; refine (shown9 _).mono ?_; rintro e w1 ⟨rfl, hb⟩))
  go_loopw [4, 5] (fun u4 u5 wr => ∃ k : Nat, k ≤ 30 ∧ u5 = .int .i64 k ∧ u4 = .int .i64 (sumT k) ∧ Hid (Below w.heap.size w wr)) (fun u4 u5 _ => 30 - (intOf u5).toNat)
  case atStart => exact ⟨0, by omega, rfl, rfl, Lib.hid hb⟩
  case round =>
    obtain ⟨k, hk, rfl, rfl, B1⟩ := hrel
    clear hb
    by_cases hlt : k < 30
    · have hs : sumT (k + 1) = sumT k + tn k := rfl
      have HS := Lib.hid hs
      clear hs
      have hr := sumT_rng k hk
      have ht := tn_rng k
      obtain ⟨hf1, hf2⟩ := tn_falls k hlt
      have C1 := fun W => Lib.hid (turn_nat k hlt W)
      generalize sumT k = S at *
      by_cases h0 : k = 0
      · subst h0
        clear hf2
        generalize tn 0 = t at *
        go_wp2_with (go_at_call 14; refine (C1 _).out.mono ?_; rintro e w2 ⟨rfl, hb⟩; have B1 := Lib.hid (B1.out.trans (hb.mono B1.out.size)); clear hb)
        go_roundw
        case rel => exact ⟨0 + 1, by omega, by go_num, by rw [HS.out], B1⟩
        case measure => simp [intOf]
      · have C2 : ∀ W, Hid (Calls Try.prog 14 #[.int .i64 ((k : Int) - 1)] W fun e w' => e = .returned (.int .i32 (tn (k - 1))) ∧ Below W.heap.size W w') :=
          fun W => Lib.hid (by rw [show (k : Int) - 1 = ((k - 1 : Nat) : Int) by omega]; exact turn_nat (k - 1) (by omega) W)
        have hf3 := hf2 (by omega)
        generalize tn (k - 1) = t' at *
        generalize tn k = t at *
        have hk1 : decide ((0 : Int) < k) = true := decide_eq_true (by omega)
        have hk2 : (0 : Int) < k := by omega
        clear hf2
        go_wp2_with (first
          | (go_at_call_of 14 (Value.int .i64 (k : Int)); refine (C1 _).out.mono ?_; rintro e w2 ⟨rfl, hb⟩; have B1 := Lib.hid (B1.out.trans (hb.mono B1.out.size)); clear hb)
          | (go_at_call 14; refine (C2 _).out.mono ?_; rintro e w2 ⟨rfl, hb⟩; have B1 := Lib.hid (B1.out.trans (hb.mono B1.out.size)); clear hb))
        go_roundw
        case rel => exact ⟨k + 1, by omega, by go_num, by rw [HS.out], B1⟩
        case measure => simp [intOf]; omega
    · obtain rfl : k = 30 := by omega
      have hS : decide (1073741824 < sumT 30) = true := decide_eq_true HSum.out
      have hS2 := HSum.out
      generalize sumT 30 = S at *
      obtain ⟨i0, i1⟩ := HI.out
      by_cases hin : 0 ≤ i ∧ i < 30
      · have d1 : decide (0 ≤ i) = true := decide_eq_true hin.1
        have d2 : decide (i < 30) = true := decide_eq_true hin.2
        clear hin
        go_wp2
        go_ret
        exact ⟨rfl, B1.out⟩
      · have C3 := fun W => Lib.hid (turn_out i W i0 i1 (by omega))
        by_cases hn : 0 ≤ i
        · have d1 : decide (0 ≤ i) = true := decide_eq_true hn
          have d2 : decide (i < 30) = false := decide_eq_false (by omega)
          go_wp2_with (go_at_call 14; refine (C3 _).out.mono ?_; rintro e w2 ⟨rfl, hb⟩)
          go_ret
          exact ⟨rfl, B1.out.trans (hb.mono B1.out.size)⟩
        · have d1 : decide (0 ≤ i) = false := decide_eq_false hn
          go_wp2_with (go_at_call 14; refine (C3 _).out.mono ?_; rintro e w2 ⟨rfl, hb⟩)
          go_ret
          exact ⟨rfl, B1.out.trans (hb.mono B1.out.size)⟩
end Go.Proofs.Ytccmimgdmfjciaa
