/-
  RingBoth: whatever two rings and place, the law returns true and changes nothing that was there. No conditions.
-/
import Derived.Test.YtoibfkieadhelaaWm
import Derived.Deep.Cut
namespace Go.Proofs.Ytoibfkieadhelaa
open Go.RowKit

/-! ### What the law's tests come to -/
theorem both_1 (a b : Rg) (k : Int) (h : a.p (slotN k) = k) (h2 : b.p (slotN k) ≤ k) : getB (rmP a b 16) k = true ∧ getS (rmP a b 16) (rmS a b 16) k = a.s (slotN k) := by
  have hl := slotN_lt k
  have hn : ¬ a.p (slotN k) < b.p (slotN k) := by omega
  unfold getB getS
  rw [rmP_at a b _ hl, rmS_at a b _ hl]
  simp only [if_neg hn, if_pos h]
  exact ⟨decide_eq_true h, trivial⟩
theorem both_2 (a b : Rg) (k : Int) (h : b.p (slotN k) = k) (h2 : a.p (slotN k) < k) : getB (rmP a b 16) k = true ∧ getS (rmP a b 16) (rmS a b 16) k = b.s (slotN k) := by
  have hl := slotN_lt k
  have hn : a.p (slotN k) < b.p (slotN k) := by omega
  unfold getB getS
  rw [rmP_at a b _ hl, rmS_at a b _ hl]
  simp only [if_pos hn, if_pos h]
  exact ⟨decide_eq_true h, trivial⟩
theorem both_3 (a b : Rg) (k : Int) (h : (a.p (slotN k) = k ∧ k < b.p (slotN k)) ∨ (b.p (slotN k) = k ∧ k < a.p (slotN k)) ∨ (a.p (slotN k) ≠ k ∧ b.p (slotN k) ≠ k)) : getB (rmP a b 16) k = false := by
  have hl := slotN_lt k
  unfold getB
  rw [rmP_at a b _ hl]
  apply decide_eq_false
  split <;> omega
theorem getB_yes {p : Nat → Int} {k : Int} (h : p (slotN k) = k) : getB p k = true := decide_eq_true h
theorem getB_no {p : Nat → Int} {k : Int} (h : p (slotN k) ≠ k) : getB p k = false := decide_eq_false h
theorem getS_yes {p : Nat → Int} {s : Nat → Smp} {k : Int} (h : p (slotN k) = k) : getS p s k = s (slotN k) := if_pos h

/-- The law at what its calls come to: pa, pb, pm (found?), x, y, z (what), A, B (the places that stand there). -/
def BothOk (k A B : Int) (pa pb pm : Bool) (x y z : Smp) : Prop :=
  (pa = true → B ≤ k → pm = true ∧ z = x) ∧ (pb = true → A < k → pm = true ∧ z = y) ∧ (pm = true → pa = true ∨ pb = true) ∧ (pa = true → A = k) ∧ (pb = true → B = k)
theorem both_ok (a b : Rg) (k : Int) : BothOk k (a.p (slotN k)) (b.p (slotN k)) (getB a.p k) (getB b.p k) (getB (rmP a b 16) k) (getS a.p a.s k) (getS b.p b.s k) (getS (rmP a b 16) (rmS a b 16) k) := by
  refine ⟨fun h h2 => ?_, fun h h2 => ?_, fun h => ?_, of_decide_eq_true, of_decide_eq_true⟩
  · have e := of_decide_eq_true h
    have := both_1 a b k e h2
    exact ⟨this.1, by rw [this.2, getS_yes e]⟩
  · have e := of_decide_eq_true h
    have := both_2 a b k e h2
    exact ⟨this.1, by rw [this.2, getS_yes e]⟩
  · by_cases e1 : a.p (slotN k) = k
    · exact Or.inl (getB_yes e1)
    · by_cases e2 : b.p (slotN k) = k
      · exact Or.inr (getB_yes e2)
      · rw [both_3 a b k (Or.inr (Or.inr ⟨e1, e2⟩))] at h; cases h


set_option maxHeartbeats 4000000 in
theorem ringBoth_main (a b : Rg) (k : Int) (w : World) (h1 : 1 ≤ k) (h2 : k ≤ 4611686018427387904) (ha : rightB a.p a.s = true) (hb : rightB b.p b.s = true) :
    Calls Try.prog 8 #[.agg (mk a.p a.s), .agg (mk b.p b.s), .int .i64 k] w fun e w' => e = .returned (.bool true) ∧ Below w.heap.size w w' := by
  have I0 := Lib.hid (((Inv.start w).alloc (.cells (mk a.p a.s) 30)).alloc (.cells (mk b.p b.s) 30))
  have HA := Lib.hid ha
  have HB := Lib.hid hb
  have hl := slotN_lt k
  clear ha hb
  go_enter Try.func8, Try.ntmps8
  go_wp2_with fail
  refine (shown_any _).mono ?_
  rintro e w1 ⟨rfl, hb⟩
  have I1 := Lib.hid (I0.out.call hb)
  clear hb I0
  go_wp2_with ((with_reducible show wpList _ _ _ (Oper.mk _ (Op.load 30 _) _ _ _ none :: _) _ _); refine wl_load30 rfl _ rfl _ rfl a.p a.s (by exact I1.out.get _ _ (by simp)) ?_)
  refine (rright_t HA.out _).mono ?_
  rintro e w2 ⟨rfl, hb⟩
  have I2 := Lib.hid (I1.out.call hb)
  clear hb I1
  go_wp2_with ((with_reducible show wpList _ _ _ (Oper.mk _ (Op.load 30 _) _ _ _ (some _) :: _) _ _); refine wl_load30g rfl _ rfl _ rfl b.p b.s (by exact I2.out.get _ _ (by simp)) ?_)
  refine (rright_t HB.out _).mono ?_
  rintro e w3 ⟨rfl, hb⟩
  have I3 := Lib.hid (I2.out.call hb)
  clear hb I2
  go_wp2_with (first
    | ((with_reducible show wpList _ _ _ (Oper.mk _ (Op.load 30 _) _ _ _ none :: _) _ _); refine wl_load30 rfl _ rfl _ rfl a.p a.s (by exact I3.out.get w.heap.size (.cells (mk a.p a.s) 30) (by simp)) ?_)
    | ((with_reducible show wpList _ _ _ (Oper.mk _ (Op.load 30 _) _ _ _ none :: _) _ _); refine wl_load30 rfl _ rfl _ rfl b.p b.s (by exact I3.out.get (w.heap.size + 1) (.cells (mk b.p b.s) 30) (by simp)) ?_))
  refine (merge_right a b HA.out HB.out _).mono ?_
  have HO := Lib.hid (both_ok a b k)
  have C13 := fun W => Lib.hid (get_gen a.p a.s k W h1 h2)
  have D13 := fun W => Lib.hid (get_gen b.p b.s k W h1 h2)
  have E13 := fun W => Lib.hid (get_gen (rmP a b 16) (rmS a b 16) k W h1 h2)
  rintro e w4 ⟨rfl, hb⟩
  generalize rmP a b 16 = p' at *
  generalize rmS a b 16 = s' at *
  generalize getB a.p k = pa at *
  generalize getB b.p k = pb at *
  generalize getB p' k = pm at *
  generalize getS a.p a.s k = x at *
  generalize getS b.p b.s k = y at *
  generalize getS p' s' k = z at *
  have I4 := Lib.hid ((I3.out.call hb).alloc (.cells (mk p' s') 30))
  clear hb I3
  unfold Smp.cells at C13 D13 E13
  go_wp2_with (first
    | ((with_reducible show wpList _ _ _ (Oper.mk _ (Op.store 30 _ _) _ _ _ _ :: _) _ _); refine wl_store30n rfl _ _ rfl _ p' s' rfl rfl _ zp zs rfl (by simp) ?_)
    | ((with_reducible show wpList _ _ _ (Oper.mk _ (Op.load 30 _) _ _ _ none :: _) _ _); refine wl_load30 rfl _ rfl _ rfl a.p a.s (by exact I4.out.get w.heap.size (.cells (mk a.p a.s) 30) (by simp)) ?_))
  refine (C13 _).out.mono ?_
  rintro e w5 ⟨rfl, hb⟩
  have I5 := Lib.hid ((I4.out.call hb).alloc (.cells x.cells 27))
  clear hb I4 C13
  unfold Smp.cells at I5
  go_wp2_with (first
    | ((with_reducible show wpList _ _ _ (Oper.mk _ (Op.load 30 _) _ _ _ none :: _) _ _); refine wl_load30 rfl _ rfl _ rfl b.p b.s (by exact I5.out.get (w.heap.size + 1) (.cells (mk b.p b.s) 30) (by simp)) ?_))
  refine (D13 _).out.mono ?_
  rintro e w6 ⟨rfl, hb⟩
  have I6 := Lib.hid ((I5.out.call hb).alloc (.cells y.cells 27))
  clear hb I5 D13
  unfold Smp.cells at I6
  go_wp2_with (first
    | ((with_reducible show wpList _ _ _ (Oper.mk _ (Op.load 30 _) _ _ _ none :: _) _ _); refine wl_load30 rfl _ rfl _ rfl p' s' (by exact I6.out.get w4.heap.size (.cells (mk p' s') 30) (by simp)) ?_))
  refine (E13 _).out.mono ?_
  rintro e w7 ⟨rfl, hb⟩
  have I7 := Lib.hid ((I6.out.call hb).alloc (.cells z.cells 27))
  clear hb I6 E13
  have hA : (w7.alloc (.cells z.cells 27)).cell? ⟨w.heap.size, slotN k, none⟩ = some (.int .i64 (a.p (slotN k))) := by rw [cell_of_row _ _ _ _ _ _ (I7.out.get w.heap.size (.cells (mk a.p a.s) 30) (by simp)), mk_place _ _ _ hl]
  have hB : (w7.alloc (.cells z.cells 27)).cell? ⟨w.heap.size + 1, slotN k, none⟩ = some (.int .i64 (b.p (slotN k))) := by rw [cell_of_row _ _ _ _ _ _ (I7.out.get (w.heap.size + 1) (.cells (mk b.p b.s) 30) (by simp)), mk_place _ _ _ hl]
  have hX : ∀ o, (w7.alloc (.cells z.cells 27)).cell? ⟨w5.heap.size, o, none⟩ = (x.cells)[o]? := fun o => cell_of_row _ w5.heap.size o x.cells 27 (0, 0) (I7.out.get w5.heap.size (.cells x.cells 27) (by simp [Smp.cells]))
  have hY : ∀ o, (w7.alloc (.cells z.cells 27)).cell? ⟨w6.heap.size, o, none⟩ = (y.cells)[o]? := fun o => cell_of_row _ w6.heap.size o y.cells 27 (0, 0) (I7.out.get w6.heap.size (.cells y.cells 27) (by simp [Smp.cells]))
  have hs7 : ((slotN k : Nat) : Int) = (k - 1) % 16 := slotN_cast k
  have HS := Lib.hid hs7
  clear hs7
  unfold Smp.cells at I7 hA hB hX hY
  go_upto_region 8 with (fail)
  generalize a.p (slotN k) = A at *
  generalize b.p (slotN k) = B at *
  generalize w7.alloc _ = W at *
  generalize w7.heap.size = n7 at *
  generalize w6.heap.size = n6 at *
  generalize w5.heap.size = n5 at *
  have hZ : ∀ o, W.cell? ⟨n7, o, none⟩ = (z.cells)[o]? := fun o => cell_of_row W n7 o z.cells 27 (0, 0) (I7.out.get n7 (.cells z.cells 27) (by simp [Smp.cells]))
  unfold Smp.cells at hZ
  obtain ⟨k1, k2, k3, k4, k5⟩ := HO.out
  have hrem : slotN k = ((k - 1) % 16).toNat := rfl
  rw [hrem] at hA hB
  clear hrem HO
  cases pa with
  | false =>
    cases pb with
    | false =>
      obtain rfl : pm = false := by cases pm with | false => rfl | true => exact absurd (k3 rfl) (by simp)
      clear k1 k2 k3 k4 k5
      go_wp2_with fail
      go_ret
      exact ⟨rfl, I7.out.1⟩
    | true =>
      by_cases hAk : k ≤ A
      · clear k1 k2 k3 k4 k5
        cases pm with
        | false =>
          go_wp2_with fail
          go_ret
          exact ⟨rfl, I7.out.1⟩
        | true =>
          go_wp2_with fail
          go_ret
          exact ⟨rfl, I7.out.1⟩
      · obtain ⟨rfl, rfl⟩ := k2 rfl (by omega)
        clear k1 k2 k3 k4 k5
        go_wp2_with ((with_reducible show wpList _ _ _ (Oper.mk _ (Op.binOp BinOp.eql 27 _ _ _) _ _ _ _ :: _) _ _); refine wl_val rfl (exec_eql27 _ _ _ _ _ rfl z z rfl rfl true (smpEq_self z)) ?_)
        go_ret
        exact ⟨rfl, I7.out.1⟩
  | true =>
    have hAk : k ≤ A := by have := k4 rfl; omega
    by_cases hBk : B ≤ k
    · obtain ⟨rfl, rfl⟩ := k1 rfl hBk
      clear k1 k2 k3 k4 k5
      cases pb with
      | false =>
        go_wp2_with ((with_reducible show wpList _ _ _ (Oper.mk _ (Op.binOp BinOp.neq 27 _ _ _) _ _ _ _ :: _) _ _); refine wl_val rfl (exec_neq27 _ _ _ _ _ rfl z z rfl rfl false (by rw [smpEq_self]; rfl)) ?_)
        go_ret
        exact ⟨rfl, I7.out.1⟩
      | true =>
        go_wp2_with ((with_reducible show wpList _ _ _ (Oper.mk _ (Op.binOp BinOp.neq 27 _ _ _) _ _ _ _ :: _) _ _); refine wl_val rfl (exec_neq27 _ _ _ _ _ rfl z z rfl rfl false (by rw [smpEq_self]; rfl)) ?_)
        go_ret
        exact ⟨rfl, I7.out.1⟩
    · obtain rfl : pb = false := by cases pb with | false => rfl | true => exact absurd (k5 rfl) (by omega)
      clear k1 k2 k3 k4 k5
      cases pm with
      | false =>
        go_wp2_with fail
        go_ret
        exact ⟨rfl, I7.out.1⟩
      | true =>
        go_wp2_with fail
        go_ret
        exact ⟨rfl, I7.out.1⟩


set_option maxHeartbeats 1000000 in
theorem ringBoth_bad (a b : Rg) (k : Int) (w : World) (ha : rightB a.p a.s = false) :
    Calls Try.prog 8 #[.agg (mk a.p a.s), .agg (mk b.p b.s), .int .i64 k] w fun e w' => e = .returned (.bool true) ∧ Below w.heap.size w w' := by
  have I0 := Lib.hid (((Inv.start w).alloc (.cells (mk a.p a.s) 30)).alloc (.cells (mk b.p b.s) 30))
  have HA := Lib.hid ha
  clear ha
  go_enter Try.func8, Try.ntmps8
  go_wp2_with fail
  refine (shown_any _).mono ?_
  rintro e w1 ⟨rfl, hb⟩
  have I1 := Lib.hid (I0.out.call hb)
  clear hb I0
  go_wp2_with ((with_reducible show wpList _ _ _ (Oper.mk _ (Op.load 30 _) _ _ _ none :: _) _ _); refine wl_load30 rfl _ rfl _ rfl a.p a.s (by exact I1.out.get _ _ (by simp)) ?_)
  refine (rright_f HA.out _).mono ?_
  rintro e w2 ⟨rfl, hb⟩
  have I2 := Lib.hid (I1.out.call hb)
  clear hb I1
  go_wp2_with fail
  go_ret
  exact ⟨rfl, I2.out.1⟩

set_option maxHeartbeats 1000000 in
theorem ringBoth_bad2 (a b : Rg) (k : Int) (w : World) (ha : rightB a.p a.s = true) (hb : rightB b.p b.s = false) :
    Calls Try.prog 8 #[.agg (mk a.p a.s), .agg (mk b.p b.s), .int .i64 k] w fun e w' => e = .returned (.bool true) ∧ Below w.heap.size w w' := by
  have I0 := Lib.hid (((Inv.start w).alloc (.cells (mk a.p a.s) 30)).alloc (.cells (mk b.p b.s) 30))
  have HA := Lib.hid ha
  have HB := Lib.hid hb
  clear ha hb
  go_enter Try.func8, Try.ntmps8
  go_wp2_with fail
  refine (shown_any _).mono ?_
  rintro e w1 ⟨rfl, hb⟩
  have I1 := Lib.hid (I0.out.call hb)
  clear hb I0
  go_wp2_with ((with_reducible show wpList _ _ _ (Oper.mk _ (Op.load 30 _) _ _ _ none :: _) _ _); refine wl_load30 rfl _ rfl _ rfl a.p a.s (by exact I1.out.get _ _ (by simp)) ?_)
  refine (rright_t HA.out _).mono ?_
  rintro e w2 ⟨rfl, hb⟩
  have I2 := Lib.hid (I1.out.call hb)
  clear hb I1
  go_wp2_with ((with_reducible show wpList _ _ _ (Oper.mk _ (Op.load 30 _) _ _ _ (some _) :: _) _ _); refine wl_load30g rfl _ rfl _ rfl b.p b.s (by exact I2.out.get _ _ (by simp)) ?_)
  refine (rright_f HB.out _).mono ?_
  rintro e w3 ⟨rfl, hb⟩
  have I3 := Lib.hid (I2.out.call hb)
  clear hb I2
  go_wp2_with fail
  go_ret
  exact ⟨rfl, I3.out.1⟩

set_option maxHeartbeats 1000000 in
theorem ringBoth_out (a b : Rg) (k : Int) (w : World) (ha : rightB a.p a.s = true) (hb : rightB b.p b.s = true) (hk : k < 1 ∨ 4611686018427387904 < k) :
    Calls Try.prog 8 #[.agg (mk a.p a.s), .agg (mk b.p b.s), .int .i64 k] w fun e w' => e = .returned (.bool true) ∧ Below w.heap.size w w' := by
  have I0 := Lib.hid (((Inv.start w).alloc (.cells (mk a.p a.s) 30)).alloc (.cells (mk b.p b.s) 30))
  have HA := Lib.hid ha
  have HB := Lib.hid hb
  clear ha hb
  by_cases h0 : k < 1
  all_goals
    first
      | (have h2 : 4611686018427387904 < k := by omega)
      | skip
    clear hk
    go_enter Try.func8, Try.ntmps8
    go_wp2_with fail
    refine (shown_any _).mono ?_
    rintro e w1 ⟨rfl, hb⟩
    have I1 := Lib.hid (I0.out.call hb)
    clear hb
    go_wp2_with ((with_reducible show wpList _ _ _ (Oper.mk _ (Op.load 30 _) _ _ _ none :: _) _ _); refine wl_load30 rfl _ rfl _ rfl a.p a.s (by exact I1.out.get _ _ (by simp)) ?_)
    refine (rright_t HA.out _).mono ?_
    rintro e w2 ⟨rfl, hb⟩
    have I2 := Lib.hid (I1.out.call hb)
    clear hb I1
    go_wp2_with ((with_reducible show wpList _ _ _ (Oper.mk _ (Op.load 30 _) _ _ _ (some _) :: _) _ _); refine wl_load30g rfl _ rfl _ rfl b.p b.s (by exact I2.out.get _ _ (by simp)) ?_)
    refine (rright_t HB.out _).mono ?_
    rintro e w3 ⟨rfl, hb⟩
    have I3 := Lib.hid (I2.out.call hb)
    clear hb I2
    go_wp2_with fail
    go_ret
    exact ⟨rfl, I3.out.1⟩

theorem ringBoth_walk (p : Nat → Int) (s : Nat → Smp) (q : Nat → Int) (r : Nat → Smp) (k : Int) (w : World) :
    Calls Try.prog 8 #[.agg (mk p s), .agg (mk q r), .int .i64 k] w fun e w' => e = .returned (.bool true) ∧ Below w.heap.size w w' := by
  cases ha : rightB p s with
  | false => exact ringBoth_bad ⟨p, s⟩ ⟨q, r⟩ k w ha
  | true =>
    cases hb : rightB q r with
    | false => exact ringBoth_bad2 ⟨p, s⟩ ⟨q, r⟩ k w ha hb
    | true =>
      by_cases hk : 1 ≤ k ∧ k ≤ 4611686018427387904
      · exact ringBoth_main ⟨p, s⟩ ⟨q, r⟩ k w hk.1 hk.2 ha hb
      · exact ringBoth_out ⟨p, s⟩ ⟨q, r⟩ k w ha hb (by omega)
end Go.Proofs.Ytoibfkieadhelaa
