/-
  The ring's Right, Newest and slices.Max: for every ring.
-/
import Derived.Test.YtoibfkieadhelaaWc
namespace Go.Proofs.Ytoibfkieadhelaa
open Go.RowKit

/-- The greatest of the first places. -/
def mxTo (p : Nat → Int) : Nat → Int
  | 0 => p 0
  | k + 1 => if mxTo p k < p k then p k else mxTo p k

set_option maxHeartbeats 1000000 in
theorem max_any (p : Nat → Int) (b : Nat) (w : World) (hb : ∀ i, i < 16 → w.cell? ⟨b, i, none⟩ = some (.int .i64 (p i))) :
    Calls Try.prog 26 #[.slice (some ⟨b, 0, none⟩) 16 16] w fun e w' => e = .returned (.int .i64 (mxTo p 16)) ∧ w = w' := by
  have hb0 := hb 0 (by omega)
  have HB := Lib.hid hb
  clear hb
  go_enter Try.func26, Try.ntmps26
  go_wp2
  go_loop [3, 4] (fun m i => ∃ k : Nat, 1 ≤ k ∧ k ≤ 16 ∧ i = .int .i64 k ∧ m = .int .i64 (mxTo p k)) (fun _ i => 16 - (intOf i).toNat)
  case atStart => exact ⟨1, by omega, by omega, rfl, by simp [mxTo]⟩
  case round =>
    obtain ⟨k, hk0, hk, rfl, rfl⟩ := hrel
    by_cases hlt : k < 16
    · have hP := HB.out k hlt
      clear hb0
      go_wp2
      go_round
      case rel => exact ⟨k + 1, by omega, by omega, by go_num, rfl⟩
      case measure => simp [intOf]; omega
    · obtain rfl : k = 16 := by omega
      go_wp2
      go_ret
      exact ⟨rfl, rfl⟩

theorem wl_load22 {ops : Array Oper} {rest : List Oper} {o : Oper} {a : Act} {w : World} {Q : Exit → Act → World → Prop} (hgd : o.guard = none) (x : Operand) (ho : o.op = .load 22 x)
    (b : Nat) (hx : a.eval x = .pointer (some ⟨b, 0, none⟩)) (p : Nat → Int) (s : Nat → Smp) (hb : w.heap[b]? = some (.cells (mk p s) 30 (0, 0)))
    (h : wpList Try.prog ops Q rest (a.put o.dst (.agg ((mk p s).extract 0 16))) w) : wpList Try.prog ops Q (o :: rest) a w := by
  have hr := World.rangeAt_of_block hb 0 16
  refine wpList_load_mid hgd 22 x ho b 0 hx _ _ hr Try.underlying22 rfl (by rw [size22]; simp [mk_size]) ?_
  simp only [Array.toArray_toList, Nat.zero_add]
  exact h

set_option maxHeartbeats 1000000 in
theorem newest_any (p : Nat → Int) (s : Nat → Smp) (w : World) :
    Calls Try.prog 14 #[.agg (mk p s)] w fun e w' => e = .returned (.int .i64 (mxTo p 16)) ∧ Below w.heap.size w w' := by
  go_enter Try.func14, Try.ntmps14
  go_wp2_with (go_at_call 26; refine (max_any p _ _ (fun i hi => by simpa using mk_place p s i hi)).mono ?_; rintro e w' ⟨rfl, rfl⟩)
  go_ret
  exact ⟨rfl, (Below.refl _ _).alloc (Nat.le_refl _) _⟩

theorem index22 (X : Array Value) (k : Nat) (v : Value) (hk : k < 16) (h : X[k]? = some v) (w : World) : (Instr.index 22 (.agg X) (.int .i64 (k : Int))).run Try.prog w = .ok v w := by
  obtain ⟨i, hi⟩ := info2
  unfold Instr.index
  simp only [asIntOf, Sem.run_bind, Sem.run_pure, Result.andThen_ok, run_underlying Try.underlying22 w]
  rw [if_pos (by omega)]
  rw [Sem.run_bind, run_sizeOf w hi, Result.andThen_ok, cells2]
  exact run_part_plain w plain2 (by simpa using h)

set_option maxHeartbeats 2000000 in
theorem right_any (p : Nat → Int) (s : Nat → Smp) (w : World) :
    Calls Try.prog 17 #[.agg (mk p s)] w fun e w' => e = .returned (.bool (rightB p s)) ∧ Below w.heap.size w w' := by
  have hfin : Below w.heap.size w (w.alloc (Obj.cells (mk p s) 30)) := (Below.refl _ _).alloc (Nat.le_refl _) _
  have HF := Lib.hid hfin
  clear hfin
  go_enter Try.func17, Try.ntmps17
  go_wp2_with (refine wl_load22 rfl _ rfl _ rfl p s (by exact w1_0 _ _) ?_)
  have hX : ∀ i, i < 16 → ((mk p s).extract 0 16)[i]? = some (.int .i64 (p i)) := by
    intro i hi
    rw [Array.getElem?_extract, mk_size, if_pos (by simp; omega)]; simpa using mk_place p s i hi
  generalize (mk p s).extract 0 16 = X at hX ⊢
  have HX := Lib.hid hX
  clear hX
  go_loop [7, 3, 4] (fun i _ _ => ∃ k : Nat, k ≤ 16 ∧ i = .int .i64 k ∧ ∀ j, j < k → okAt p s j = true) (fun i _ _ => 16 - (intOf i).toNat)
  case atStart => exact ⟨0, Nat.zero_le _, rfl, fun j hj => by omega⟩
  case round =>
    obtain ⟨k, hk, rfl, hall⟩ := hrel
    have HA := Lib.hid hall
    clear hall
    by_cases hlt : k < 16
    · have hP := index22 X k _ hlt (HX.out k hlt)
      obtain ⟨c0, c1, c2, c3, c4, c5, c6, c7, c8, c9, c10, c11, c12⟩ := mk13 p s k hlt
      by_cases h0 : p k = 0
      · have h0' : (p k == 0) = true := by rw [beq_iff_eq]; exact h0
        have h0'' : (p k != 0) = false := by rw [bne_eq_false_iff_eq]; exact h0
        by_cases hs : s k = Smp.zero
        · have HS : Hid ((!smpEq (s k) Smp.zero) = false) := Lib.hid (by rw [show smpEq (s k) Smp.zero = true from decide_eq_true hs]; rfl)
          have HK : Hid (okAt p s k = true) := by unfold okAt; rw [if_pos h0]; exact decide_eq_true hs
          clear h0 hs
          go_wp2_with ((with_reducible show wpList _ _ _ (Oper.mk _ (Op.binOp BinOp.neq 27 _ _ _) _ _ _ _ :: _) _ _); refine wl_val rfl (exec_neq27 _ _ _ _ _ rfl (s k) Smp.zero rfl rfl false HS.out) ?_)
          go_round
          case rel => exact ⟨k + 1, by omega, by go_num, all_snoc HA.out HK.out⟩
          case measure => simp [intOf]; omega
        · have HS : Hid ((!smpEq (s k) Smp.zero) = true) := Lib.hid (by rw [show smpEq (s k) Smp.zero = false from decide_eq_false hs]; rfl)
          have HK : Hid (okAt p s k = false) := by unfold okAt; rw [if_pos h0]; exact decide_eq_false hs
          clear h0 hs
          go_wp2_with ((with_reducible show wpList _ _ _ (Oper.mk _ (Op.binOp BinOp.neq 27 _ _ _) _ _ _ _ :: _) _ _); refine wl_val rfl (exec_neq27 _ _ _ _ _ rfl (s k) Smp.zero rfl rfl true HS.out) ?_)
          go_ret
          exact ⟨by rw [rightB_false hlt HK.out]; rfl, HF.out⟩
      · have h0' : (p k == 0) = false := by rw [beq_eq_false_iff_ne]; exact h0
        have h0'' : (p k != 0) = true := by rw [bne_iff_ne]; exact h0
        by_cases h1 : 1 ≤ p k ∧ p k ≤ 4611686018427387904
        · obtain ⟨h1, h2⟩ := h1
          by_cases hs : slotN (p k) = k
          · have hd : ((slotN (p k) : Int) != (k : Int)) = false := by rw [bne_eq_false_iff_eq]; omega
            have HK : Hid (okAt p s k = true) := by unfold okAt; rw [if_neg h0]; exact decide_eq_true ⟨h1, h2, hs⟩
            clear h0 hs
            go_wp2_with (first
              | (go_at_call 24; refine (may_yes _ _ (by omega) (by omega)).mono ?_; rintro e w' ⟨rfl, rfl⟩)
              | (go_at_call 25; refine (slot_any _ _ (by omega) (by omega)).mono ?_; rintro e w' ⟨rfl, rfl⟩))
            go_round
            case rel => exact ⟨k + 1, by omega, by go_num, all_snoc HA.out HK.out⟩
            case measure => simp [intOf]; omega
          · have hd : ((slotN (p k) : Int) != (k : Int)) = true := by rw [bne_iff_ne]; omega
            have HK : Hid (okAt p s k = false) := by unfold okAt; rw [if_neg h0]; exact decide_eq_false (fun h => hs h.2.2)
            clear h0 hs
            go_wp2_with (first
              | (go_at_call 24; refine (may_yes _ _ (by omega) (by omega)).mono ?_; rintro e w' ⟨rfl, rfl⟩)
              | (go_at_call 25; refine (slot_any _ _ (by omega) (by omega)).mono ?_; rintro e w' ⟨rfl, rfl⟩))
            go_ret
            exact ⟨by rw [rightB_false hlt HK.out]; rfl, HF.out⟩
        · have HK : Hid (okAt p s k = false) := by unfold okAt; rw [if_neg h0]; exact decide_eq_false (fun h => h1 ⟨h.1, h.2.1⟩)
          have h2 : p k < 1 ∨ 4611686018427387904 < p k := by omega
          have H2 := Lib.hid h2
          clear h0 h1 h2
          go_wp2_with (go_at_call 24; refine (may_no _ _ H2.out).mono ?_; rintro e w' ⟨rfl, rfl⟩)
          go_ret
          exact ⟨by rw [rightB_false hlt HK.out]; rfl, HF.out⟩
    · obtain rfl : k = 16 := by omega
      go_wp2
      go_ret
      exact ⟨by rw [rightB_mk HA.out]; rfl, HF.out⟩
end Go.Proofs.Ytoibfkieadhelaa
